/-
  Step by step: slices.Clone of counts, order.Clocks.
-/
import Derived.Test.YtalihehmbiohlaaDoorOrdV
import Derived.Test.YtalihehmbiohlaaDoorOrdL
import Derived.Lib.SliceRun
namespace Go.Proofs.YtalihehmbiohlaaDoor
open Go.RowKit Go.Maps Go.Proofs.Mem Go.Proofs.Txt Go.Proofs.Ord Go.Proofs.Mp

set_option maxRecDepth 100000 in
theorem iclone_walk (v : Value) (xs : List Nat) (w : World) (p : Nat → Prop) (hl : xs.length ≤ 1000000) (hv : Cells w p v (ints .i64 xs)) :
    Calls Tryd.prog 28 #[v] w fun e w' => ∃ a n c, e = .returned (.slice a n c) ∧ Cells w' (fun b => w.heap.size ≤ b) (.slice a n c) (ints .i64 xs) ∧ Keep (· < w.heap.size) w w' := by
  obtain ⟨a1, n1, c1, rfl, e1, m1, q1, hcc⟩ := id hv
  have en := fun w0 : World => Lib.run_eql_slice_nil (P := Tryd.prog) w0 32 3 a1 n1 c1 0 0 Tryd.underlying32
  cases a1 with
  | none =>
    have h0 : n1 = 0 := by
      rcases Nat.eq_zero_or_pos n1 with h | h
      · exact h
      · obtain ⟨_, _, h', _⟩ := hcc h; cases h'
    have hx : xs = [] := List.eq_nil_of_length_eq_zero (by rw [ints_length] at e1; omega)
    subst hx
    have HV := hid hv
    clear hv hcc e1 h0
    go_enter Tryd.func28, Tryd.ntmps28
    go_wp2_with fail
    go_ret
    exact ⟨_, _, _, rfl, Cells.nil _ _, Keep.refl _ _⟩
  | some a =>
    have HV := hid (hv.lt.mono (q := fun b => b < w.heap.size) (fun _ h => h.1))
    obtain ⟨i0, hi0, hz0, hs0, hb0⟩ := int_info
    have HA := hid (append_first (P := Tryd.prog) 32 3 i0 (.int .i64 0) 8 Tryd.underlying32 hi0 hz0 hs0 hb0 rfl w 32 _ (ints .i64 xs) HV.out (ints_one _ _) (by rw [ints_length]; omega))
    clear hv hcc e1 hi0 hz0 hs0 hb0
    go_enter Tryd.func28, Tryd.ntmps28
    go_wp2_with (at_builtin; refine wpList_app rfl (.tmp 5) (.tmp 6) 32 32 rfl _ HA.out ?_; rintro v1 w1 ⟨r1, k1, z1⟩)
    go_ret
    have hrow : Row w1 3 v1 (ints .i64 xs) := ⟨r1.1, by
      rcases r1.2 with h | ⟨g, c, cur, h1, h2, h3⟩
      · exact .inl h
      · exact .inr ⟨g, c, cur, h1, Nat.zero_le _, h3⟩⟩
    have hc := hrow.cells.mono (q := fun b => w.heap.size ≤ b) (fun b hb => (r1.lt b hb).1)
    obtain ⟨a, n, c, rfl, _⟩ := id hc
    exact ⟨a, n, c, rfl, hc, k1⟩

theorem lay_watcher : structLay Tryd.prog 74 = some ([.slice none 0 0, .slice none 0 0, .slice none 0 0, .slice none 0 0, .slice none 0 0, .slice none 0 0, .slice none 0 0, .slice none 0 0, .slice none 0 0, .map none, .map none, .map none], [(0, 1), (1, 8), (9, 1), (10, 1), (11, 1)]) := by kernel_rfl
def watC (rv : Value) (m1 m2 m3 : Nat) : List Value := [rv, .slice none 0 0, .slice none 0 0, .slice none 0 0, .slice none 0 0, .slice none 0 0, .slice none 0 0, .slice none 0 0, .slice none 0 0, .map (some m1), .map (some m2), .map (some m3)]
theorem build_watcher (a : Option Addr) (n c m1 m2 m3 : Nat) (w : World) : (Instr.build 74 #[(0, .slice a n c), (2, .map (some m1)), (3, .map (some m2)), (4, .map (some m3))]).run Tryd.prog w = .ok (.agg (watC (.slice a n c) m1 m2 m3).toArray) w := by
  refine run_build w _ _ _ ?_
  rw [built_struct lay_watcher]
  rw [fill_cons (off := 0) (size := 1) (xs := [.slice a n c]) rfl rfl rfl (by simp)]
  rw [fill_cons (off := 9) (size := 1) (xs := [.map (some m1)]) rfl rfl rfl (by simp [lay])]
  rw [fill_cons (off := 10) (size := 1) (xs := [.map (some m2)]) rfl rfl rfl (by simp [lay])]
  rw [fill_cons (off := 11) (size := 1) (xs := [.map (some m3)]) rfl rfl rfl (by simp [lay])]
  rfl
/-- v reads as so many clocks. -/
def ClksAt (w : World) (p : Nat → Prop) (v : Value) (n : Nat) (K : Nat → Nat → Nat) : Prop := ∃ vs, Cells w p v vs ∧ vs.length = n ∧ ∀ i x, vs[i]? = some x → Cells w p x (ints .i64 (short (K i)))
theorem ClksAt.keep {w w' : World} {p q : Nat → Prop} {v : Value} {n : Nat} {K : Nat → Nat → Nat} (h : ClksAt w p v n K) (k : Keep q w w') (hq : ∀ b, p b → q b) : ClksAt w' p v n K := by
  obtain ⟨vs, h1, h2, h3⟩ := h
  exact ⟨vs, h1.keep k hq, h2, fun i x hx => (h3 i x hx).keep k hq⟩
theorem ClksAt.mono {w : World} {p q : Nat → Prop} {v : Value} {n : Nat} {K : Nat → Nat → Nat} (h : ClksAt w p v n K) (hq : ∀ b, p b → q b) : ClksAt w q v n K := by
  obtain ⟨vs, h1, h2, h3⟩ := h
  exact ⟨vs, h1.mono hq, h2, fun i x hx => (h3 i x hx).mono hq⟩
theorem ClksAt.lt {w : World} {p : Nat → Prop} {v : Value} {n : Nat} {K : Nat → Nat → Nat} (h : ClksAt w p v n K) : ClksAt w (fun b => b < w.heap.size ∧ p b) v n K := by
  obtain ⟨vs, h1, h2, h3⟩ := h
  exact ⟨vs, h1.lt, h2, fun i x hx => (h3 i x hx).lt⟩
theorem ClksAt.form {w : World} {p : Nat → Prop} {v : Value} {n : Nat} {K : Nat → Nat → Nat} (h : ClksAt w p v n K) : ∃ a c, v = .slice a n c ∧ n ≤ c ∧ c ≤ 9223372036854775807 := by
  obtain ⟨vs, ⟨a, m, c, rfl, e1, e2, e3, _⟩, h2, _⟩ := h
  subst e1 h2
  exact ⟨a, c, rfl, e2, by simpa [maxLen] using e3⟩
theorem ClksAt.get {w : World} {p : Nat → Prop} {a : Option Addr} {n m c : Nat} {K : Nat → Nat → Nat} (h : ClksAt w p (.slice a m c) n K) (i : Nat) (hi : i < n) : ∃ blk off xa xn xc, a = some ⟨blk, off, none⟩ ∧ p blk ∧ w.cell? ⟨blk, off + i, none⟩ = some (.slice xa xn xc) ∧ Cells w p (.slice xa xn xc) (ints .i64 (short (K i))) := by
  obtain ⟨vs, h1, h2, h3⟩ := h
  obtain ⟨blk, off, ha, hp, hc⟩ := cells_blk h1 (by omega)
  have hx : vs[i]? = some vs[i] := List.getElem?_eq_getElem (by omega)
  have hk := h3 i _ hx
  obtain ⟨xa, xn, xc, e, _⟩ := id hk
  exact ⟨blk, off, xa, xn, xc, ha, hp, by rw [hc i (by omega), hx, e], e ▸ hk⟩

set_option maxRecDepth 100000 in
set_option maxHeartbeats 4000000 in
theorem clocks_bad (l : List Ev) (v rv ev : Value) (w : World) (p : Nat → Prop) (hv : EvsAt w p v l) (he : w.cell? ⟨0, 0, none⟩ = some ev) (hl : 0 < w.heap.size) (hno : l.all Ev.ok = false) (hev : ∃ t a, ev = .iface t a) :
    Calls Tryd.prog 11 #[v, rv] w fun e w' => e = .returned (.tuple #[.slice none 0 0, ev]) ∧ Keep (· < w.heap.size) w w' := by
  have HC := hid (ocheck_walk l v ev w p hv he hl)
  rw [hno] at HC
  clear hv he hl hno
  obtain ⟨t, a, rfl⟩ := hev
  go_enter Tryd.func11, Tryd.ntmps11
  go_wp2_with fail
  refine HC.out.mono ?_
  rintro e w1 ⟨rfl, k1⟩
  have K1 := hid k1
  clear k1
  go_wp2_with fail
  go_ret2
  exact ⟨rfl, K1.out⟩

/-- behind so many events. -/
structure ClkIn (rooms : List Int) (l : List Ev) (w : World) (B Wb M1 M2 M3 : Nat) (rv : Value) (i : Nat) (lab : Labs) (pb : Int → Nat) (wr : World) (s8 : Value) (vs : List Value) : Prop where
  watch : Watch B Wb rv M1 M2 M3 (2 * i) pb wr lab (St.run rooms (l.take i))
  row : Row wr 32 s8 vs
  own : ∀ k, s8.ownBlock = some k → B ≤ k ∧ lab k = .old
  len : vs.length = i
  clk : ∀ (j : Nat) (x : Value), vs[j]? = some x → Cells wr (fun b => ((B ≤ b ∧ b < wr.heap.size) ∧ lab b = .old) ∧ s8.ownBlock ≠ some b) x (ints .i64 (short (clockAt rooms l j)))
  keep : Keep (· < w.heap.size) w wr
/-- what is old stays. -/
theorem ClkIn.stay {rooms : List Int} {l : List Ev} {w wr wx : World} {B Wb M1 M2 M3 : Nat} {rv s8 : Value} {i : Nat} {lab lab' : Labs} {pb : Int → Nat} {vs : List Value} (h : ClkIn rooms l w B Wb M1 M2 M3 rv i lab pb wr s8 vs) (st : Stay (fun l => l = .old) wr lab wx lab')
    (h1 : w.heap.size ≤ B) :
    Row wx 32 s8 vs ∧ (∀ k, s8.ownBlock = some k → B ≤ k ∧ lab' k = .old) ∧ (∀ (j : Nat) (x : Value), vs[j]? = some x → Cells wx (fun b => ((B ≤ b ∧ b < wx.heap.size) ∧ lab' b = .old) ∧ s8.ownBlock ≠ some b) x (ints .i64 (short (clockAt rooms l j)))) ∧ Keep (· < w.heap.size) w wx := by
  have ho : ∀ b, b < B → b < wr.heap.size ∧ lab b = .old := fun b hb => ⟨Nat.lt_of_lt_of_le hb h.watch.size, h.watch.old b hb⟩
  exact ⟨h.row.keep st.keep (fun b hb => ⟨h.row.lt hb, (h.own b hb).2⟩), fun k hk => ⟨(h.own k hk).1, (st.lab k (h.row.lt hk)).trans (h.own k hk).2⟩,
    fun j x hx => (((h.clk j x hx).keep st.keep (fun b hb => ⟨hb.1.1.2, hb.1.2⟩))).mono (fun b hb => ⟨⟨⟨hb.1.1.1, Nat.lt_of_lt_of_le hb.1.1.2 st.keep.size⟩, (st.lab b hb.1.1.2).trans hb.1.2⟩, hb.2⟩), h.keep.trans (st.keep.mono fun b hb => ho b (Nat.lt_of_lt_of_le hb h1))⟩
theorem Watch.stay2 {S : Lab → Prop} {B W : Nat} {rv : Value} {M1 M2 M3 n : Nat} {pb : Int → Nat} {w w' : World} {lab lab' : Labs} {s : St} (h : Watch B W rv M1 M2 M3 n pb w lab s) (k : Stay S w lab w' lab') (hS : ∀ l, l ≠ .misc → l ≠ .old → S l) : Watch B W rv M1 M2 M3 n pb w' lab' s :=
  ⟨fun b hb => (k.lab b (Nat.lt_of_lt_of_le hb h.size)).trans (h.old b hb), Nat.le_trans h.size k.keep.size, h.own.stay k (hS _ (by simp) (by simp)) (hS _ (by simp) (by simp)), h.mut_.stay k (hS _ (by simp) (by simp)) (hS _ (by simp) (by simp)), h.atm.stay k (hS _ (by simp) (by simp)) (hS _ (by simp) (by simp)),
    h.pipe.stay k (hS _ (by simp) (by simp)) (fun _ => hS _ (by simp) (by simp)) (fun _ => hS _ (by simp) (by simp)) (fun _ => hS _ (by simp) (by simp)) (fun _ => hS _ (by simp) (by simp)) (hS _ (by simp) (by simp))⟩
def pbz : Int → Nat := fun _ => 0
theorem newl_old {lab : Labs} {n : Nat} {l : Lab} {b : Nat} (h : b < n) : newl lab n l b = lab b := if_neg (by omega)
theorem newl_new {lab : Labs} {n : Nat} {l : Lab} {b : Nat} (h : n ≤ b) : newl lab n l b = l := if_pos h

set_option maxRecDepth 100000 in
set_option maxHeartbeats 8000000 in
theorem clocks_good (rooms : List Int) (l : List Ev) (v rv ev : Value) (w : World) (p q : Nat → Prop) (hv : EvsAt w p v l) (hr : Cells w q rv (rooms.map (Value.int .i64))) (he : w.cell? ⟨0, 0, none⟩ = some ev) (hl : 0 < w.heap.size)
    (hok : l.all Ev.ok = true) (hwf : ∀ e ∈ l, (Lit.int .i64 e.obj).wf = true) (hlen : l.length ≤ 200) (hrw : ∀ r ∈ rooms, r ≤ 9223372036854775807) :
    Calls Tryd.prog 11 #[v, rv] w fun e w' => ∃ out, e = .returned (.tuple #[out, .nilIface]) ∧ ClksAt w' (fun b => w.heap.size ≤ b) out l.length (clockAt rooms l) ∧ Keep (· < w.heap.size) w w' := by
  have HC := hid (ocheck_walk l v ev w p hv he hl)
  rw [if_pos hok] at HC
  have HV := hid (hv.lt.mono (q := fun b => b < w.heap.size) (fun _ h => h.1))
  obtain ⟨va, vc, rfl, hc1, hc2⟩ := hv.form
  have HR := hid (hr.lt.mono (q := fun b => b < w.heap.size) (fun _ h => h.1))
  obtain ⟨ra, rc, rfl⟩ : ∃ a c, rv = .slice a rooms.length c := by
    obtain ⟨a, n, c, e, h1, _⟩ := hr
    rw [List.length_map] at h1
    exact ⟨a, c, by rw [e, h1]⟩
  have HOK := hid (List.all_eq_true.1 hok)
  have HWF := hid hwf
  have HRW := hid hrw
  have HLN := hid hlen
  clear hv he hl hok hwf hrw hr hlen
  go_enter Tryd.func11, Tryd.ntmps11
  go_wp2_with fail
  refine HC.out.mono ?_
  rintro e w1 ⟨rfl, k1⟩
  have K1 := hid k1
  clear k1
  have hmm := @run_makeMap Tryd.prog
  go_wp2_with fail
  clear hmm
  obtain ⟨B, hB⟩ : ∃ B, w1.heap.size = B := ⟨_, rfl⟩
  obtain ⟨M2, hM2⟩ : ∃ x, B + 1 = x := ⟨_, rfl⟩
  obtain ⟨M3, hM3⟩ : ∃ x, M2 + 1 = x := ⟨_, rfl⟩
  obtain ⟨Wb, hWb⟩ : ∃ x, M3 + 1 = x := ⟨_, rfl⟩
  have hwB : w.heap.size ≤ B := by rw [← hB]; exact K1.out.size
  rw [hB, hM2, hM3, hWb]
  refine wp_world (fun w2 => Keep (· < B) w1 w2 ∧ IMap Tryd.prog 3 w2 B [] ∧ IMap Tryd.prog 3 w2 M2 [] ∧ IMap Tryd.prog 3 w2 M3 [] ∧ w2.heap[Wb]? = some (.cells (watC (.slice ra rooms.length rc) B M2 M3).toArray 74 (0, 0)) ∧ Wb < w2.heap.size) ?_ ?_
  · subst hM2 hM3 hWb hB
    have z1 : (w1.alloc (.map #[] 0)).heap.size = w1.heap.size + 1 := by simp
    have z2 : ((w1.alloc (.map #[] 0)).alloc (.map #[] 0)).heap.size = w1.heap.size + 1 + 1 := by simp
    have z3 : (((w1.alloc (.map #[] 0)).alloc (.map #[] 0)).alloc (.map #[] 0)).heap.size = w1.heap.size + 1 + 1 + 1 := by simp
    have a1 := IMap.made Tryd.prog 3 w1
    have a2 := IMap.made Tryd.prog 3 (w1.alloc (.map #[] 0))
    have a3 := IMap.made Tryd.prog 3 ((w1.alloc (.map #[] 0)).alloc (.map #[] 0))
    rw [z1] at a2
    rw [z2] at a3
    have k12 : Keep (· < w1.heap.size + 1) (w1.alloc (.map #[] 0)) ((w1.alloc (.map #[] 0)).alloc (.map #[] 0)) := (Keep.refl _ _).alloc _ (fun _ h => by rw [z1]; exact h)
    have k23 : Keep (· < w1.heap.size + 1 + 1) ((w1.alloc (.map #[] 0)).alloc (.map #[] 0)) (((w1.alloc (.map #[] 0)).alloc (.map #[] 0)).alloc (.map #[] 0)) := (Keep.refl _ _).alloc _ (fun _ h => by rw [z2]; exact h)
    have k34 : Keep (· < w1.heap.size + 1 + 1 + 1) (((w1.alloc (.map #[] 0)).alloc (.map #[] 0)).alloc (.map #[] 0)) ((((w1.alloc (.map #[] 0)).alloc (.map #[] 0)).alloc (.map #[] 0)).alloc (.cells (watC (.slice ra rooms.length rc) w1.heap.size (w1.heap.size + 1) (w1.heap.size + 1 + 1)).toArray 74)) := (Keep.refl _ _).alloc _ (fun _ h => by rw [z3]; exact h)
    have k01 : Keep (· < w1.heap.size) w1 (w1.alloc (.map #[] 0)) := (Keep.refl _ _).alloc _ (fun _ h => h)
    refine ⟨((k01.trans (k12.mono (fun b hb => by omega))).trans (k23.mono (fun b hb => by omega))).trans (k34.mono (fun b hb => by omega)), ((a1.keep k12 (by omega)).keep k23 (by omega)).keep k34 (by omega), (a2.keep k23 (by omega)).keep k34 (by omega), a3.keep k34 (by omega), ?_, ?_⟩
    · have := heap_alloc_new (((w1.alloc (.map #[] 0)).alloc (.map #[] 0)).alloc (.map #[] 0)) (.cells (watC (.slice ra rooms.length rc) w1.heap.size (w1.heap.size + 1) (w1.heap.size + 1 + 1)).toArray 74)
      rw [z3] at this
      exact this
    · simp
  rintro w2 ⟨k2, i1, i2, i3, hW, zW⟩
  have HS : ClkIn rooms l w B Wb B M2 M3 (.slice ra rooms.length rc) 0 (fun k => if k = B then .mu else if k = M2 then .at_ else if k = M3 then .pi else if k = Wb then .wat else .old) pbz w2 (.slice none 0 0) [] := by
    refine ⟨⟨fun b hb => ?_, by omega, ?_, ?_, ?_, ?_⟩, Row.nil _ _, (fun k hk => by cases hk), rfl, (fun j x hx => by simp at hx), K1.out.trans (k2.mono (fun b hb => Nat.lt_of_lt_of_le hb hwB))⟩
    · simp only [show b ≠ B by omega, show b ≠ M2 by omega, show b ≠ M3 by omega, show b ≠ Wb by omega, if_false]
    · exact ⟨List.replicate 8 (.slice none 0 0), rfl, hW, by simp only [show Wb ≠ B by omega, show Wb ≠ M2 by omega, show Wb ≠ M3 by omega, if_false, if_true], fun g x hx => by
        obtain rfl : x = .slice none 0 0 := List.eq_of_mem_replicate (List.mem_of_getElem? hx)
        exact ClkAt.zero _ _⟩
    · exact ⟨[], i1, by simp, Nat.le_refl _, fun c => ClkAt.zero _ _⟩
    · exact ⟨[], i2, by simp only [show M2 ≠ B by omega, if_false, if_true], Nat.le_refl _, fun c => ClkAt.zero _ _⟩
    · exact ⟨[], i3, by simp only [show M3 ≠ B by omega, show M3 ≠ M2 by omega, if_false, if_true], Nat.le_refl _, fun c => .inl ⟨rfl, rfl⟩⟩
  have HS := hid HS
  clear k2 i1 i2 i3 hW zW hB hM2 hM3 hWb
  go_loopg [8, 24] l.length (fun k s8 s24 wr => ∃ (i : Nat) (lab : Labs) (pb : Int → Nat) (vs : List Value), i + k = l.length ∧ s24 = .int .i64 (i : Int) ∧ ClkIn rooms l w B Wb B M2 M3 (.slice ra rooms.length rc) i lab pb wr s8 vs)
  case atStart => exact ⟨0, _, _, _, by omega, rfl, HS.out⟩
  case round =>
    obtain ⟨i, lab, pb, vs, hik, rfl, hin⟩ := hrel
    have HIN := hid hin
    clear hin HS
    by_cases hlt : i < l.length
    · have l0 : (i : Int) < (l.length : Int) := by omega
      obtain ⟨x, hx⟩ : ∃ x, l[i] = x := ⟨_, rfl⟩
      obtain ⟨blk, off, hva, hblk, hrg⟩ := HV.out.get i hlt
      rw [hx] at hrg
      subst hva
      have RG := hid (show wr.rangeAt blk (off + i * 4) (evC x) from fun j v hv => (HIN.out.keep.cell (x := ⟨blk, off + i * 4 + j, none⟩) hblk).trans (hrg j v hv))
      have HX := hid (And.intro (show ∀ h : i < l.length, l[i]'h = x from fun _ => hx) (show x ∈ l by rw [← hx]; exact List.getElem_mem _))
      have HI := hid (And.intro hik hlt)
      have osz := ev_size x
      have o1 : (evC x).toArray.all (·.oneCell') = true := by simp [evC, Value.oneCell']
      clear hrg hx hik hlt hblk
      go_upto_region 9 with (first
        | (refine wpList_load_mid rfl 25 (.tmp 26) rfl blk (off + i * 4) rfl (evC x) _ RG.out Tryd.underlying25 rfl osz ?_)
        | (refine wpList_store_row rfl 25 (.tmp 10) (.tmp 27) rfl wr.heap.size (evC x).toArray rfl rfl 25 _ (heap_alloc_new wr _) (by rw [List.size_toArray]; exact osz) rfl o1 ?_))
      obtain ⟨O, hO⟩ : ∃ O, O = wr.heap.size := ⟨_, rfl⟩
      refine wp_world (fun wa => Keep (· < wr.heap.size) wr wa ∧ wa.heap[wr.heap.size]? = some (.cells (evC x).toArray 25 (0, 0)))
        ⟨((Keep.refl _ _).alloc _ (fun _ h => h)).setRow _ (by simp), heap_setRow (heap_alloc_new wr _) _⟩ ?_
      rintro wa ⟨ka, ra2⟩
      rw [← hO] at ra2 ⊢
      have RA := hid (range_whole ra2)
      have SA := hid (Stay.news (fun _ => True) lab .old ka)
      obtain ⟨labA, hlabA⟩ : ∃ labA, newl lab wr.heap.size .old = labA := ⟨_, rfl⟩
      rw [hlabA] at SA
      have HA := hid (HIN.out.stay (SA.out.old_of trivial) hwB)
      have WA := hid (HIN.out.watch.stay SA.out (fun _ _ => trivial))
      have HRA := hid ((HR.out.keep HA.out.2.2.2 (fun b hb => hb)).mono (q := fun b => b < B) (fun b hb => Nat.lt_of_lt_of_le hb hwB))
      obtain ⟨xa, xc, rfl⟩ := HIN.out.row.form
      clear ka ra2 hO hlabA
      go_wp2_with (refine wpList_load_mid rfl 25 (.tmp 10) rfl O 0 rfl (evC x) _ RA.out Tryd.underlying25 rfl osz ?_)
      have hlen := HLN.out
      refine (event_walk rooms B Wb _ B M2 M3 (2 * i) pb wa labA _ x WA.out HRA.out (HOK.out x HX.out.2) (HWF.out x HX.out.2) (by have := HI.out; omega) ((run_le rooms l i (by have := HI.out; omega)).mono (fun K hK g => by have := hK g; have := HI.out; omega)) (fun c => by have := run_lens rooms l c i (by have := HI.out; omega); have := HI.out; omega) HRW.out).mono ?_
      rintro e w3 ⟨v, pb3, lab3, rfl, W3, C3, S3⟩
      have hck : (St.run rooms (l.take i)).clock rooms x = clockAt rooms l i := by rw [clockAt_at rooms l i HI.out.2, HX.out.1 HI.out.2]
      have hst : (St.run rooms (l.take i)).step rooms x = St.run rooms (l.take (i + 1)) := by rw [run_take rooms l i HI.out.2, HX.out.1 HI.out.2]
      rw [hck] at C3
      rw [hst] at W3
      obtain ⟨va3, vn3, vc3, rfl⟩ := C3.form
      have H3 := hid (And.intro W3 (And.intro C3 S3))
      have HB3 := hid ((SA.out.old_of trivial).trans S3)
      clear W3 C3 S3 hck hst hlen
      go_wp2_with fail
      refine (iclone_walk _ _ w3 _ (Nat.le_trans (short_length _) (by decide)) H3.out.2.1).mono ?_
      rintro e w4 ⟨ya, yn, yc, rfl, c4, k4⟩
      have S4 := hid (Stay.news (fun _ => True) lab3 .old k4)
      obtain ⟨lab4, hlab4⟩ : ∃ lab4, newl lab3 w3.heap.size .old = lab4 := ⟨_, rfl⟩
      have hn4 : ∀ b, w3.heap.size ≤ b → lab4 b = .old := fun b hb => by rw [← hlab4]; exact newl_new hb
      rw [hlab4] at S4
      have HB4 := hid (HB3.out.trans (S4.out.old_of trivial))
      have HI4 := hid (HIN.out.stay HB4.out hwB)
      have HC4 := hid (And.intro c4.lt (And.intro k4 hn4))
      have HAP := hid (fun ty : TypeId => clk_append_one w4 ty _ (.slice ya yn yc) vs rfl HI4.out.1 (by rw [HIN.out.len]; have := HI.out; have := HLN.out; omega))
      clear c4 k4 hlab4 hn4
      go_wp2_with (at_builtin; refine wpList_app rfl (.tmp 28) (.tmp 33) 34 34 rfl _ (HAP.out _) ?_; rintro v5 w5 ⟨r5, k5, o5⟩; have H5 := hid (And.intro r5 (And.intro k5 o5)); clear r5 k5 o5)
      go_roundg (gk - 1)
      case measure => have := HI.out; omega
      case rel =>
        have z34 := HC4.out.2.1.size
        have zr3 := HB3.out.keep.size
        have hown := HI4.out.2.1
        have ho4 : ∀ k, (Value.slice xa vs.length xc).ownBlock = some k → k < wr.heap.size := fun k hk => HIN.out.row.lt hk
        have st5 : Stay (fun l => l ≠ .old) w4 lab4 w5 (newl lab4 w4.heap.size .old) := ⟨H5.out.2.1.mono fun b hb => ⟨hb.1, fun e => hb.2 (hown b e).2⟩, fun b hb => newl_old hb⟩
        have hb5 : ∀ b, b < w4.heap.size → lab4 b = .old → newl lab4 w4.heap.size .old b = .old := fun b h1 h2 => (newl_old h1).trans h2
        have own5 : ∀ k, v5.ownBlock = some k → B ≤ k ∧ newl lab4 w4.heap.size .old k = .old := fun k hk => by
          rcases H5.out.2.2 k hk with h | h
          · exact ⟨(hown k h).1, hb5 k (by have := ho4 k h; omega) (hown k h).2⟩
          · exact ⟨by have := HIN.out.watch.size; omega, newl_new h⟩
        have ne5 : ∀ b, b < w4.heap.size → (Value.slice xa vs.length xc).ownBlock ≠ some b → v5.ownBlock ≠ some b := fun b h1 h2 e => by
          rcases H5.out.2.2 b e with h | h
          · exact h2 h
          · omega
        refine ⟨i + 1, _, pb3, _, by have := HI.out; omega, by go_num, ⟨(H3.out.1.stay S4.out (fun _ _ => trivial)).stay2 st5 (fun l _ h => h), H5.out.1, own5, by rw [List.length_append, HIN.out.len]; rfl, fun j y hy => ?_, ?_⟩⟩
        · by_cases hj : j < vs.length
          · rw [List.getElem?_append_left hj] at hy
            have := HI4.out.2.2.1 j y hy
            exact (this.keep H5.out.2.1 (fun b hb => ⟨hb.1.1.2, hb.2⟩)).mono (fun b hb => ⟨⟨⟨hb.1.1.1, Nat.lt_of_lt_of_le hb.1.1.2 H5.out.2.1.size⟩, hb5 b hb.1.1.2 hb.1.2⟩, ne5 b hb.1.1.2 hb.2⟩)
          · rw [List.getElem?_append_right (by omega)] at hy
            have hj0 : j - vs.length = 0 := by
              rcases Nat.eq_zero_or_pos (j - vs.length) with h | h
              · exact h
              · rw [List.getElem?_eq_none (by simp; omega)] at hy; cases hy
            rw [hj0] at hy
            cases hy
            have hji : j = i := by have := HIN.out.len; omega
            subst hji
            have hno : ∀ b, w3.heap.size ≤ b → (Value.slice xa vs.length xc).ownBlock ≠ some b := fun b hb e => by have := ho4 b e; omega
            exact (HC4.out.1.keep H5.out.2.1 (fun b hb => ⟨hb.1, hno b hb.2⟩)).mono (fun b hb => ⟨⟨⟨by have := HIN.out.watch.size; omega, Nat.lt_of_lt_of_le hb.1 H5.out.2.1.size⟩, hb5 b hb.1 (HC4.out.2.2 b hb.2)⟩, ne5 b hb.1 (hno b hb.2)⟩)
        · exact HI4.out.2.2.2.trans (H5.out.2.1.mono fun b hb => ⟨by have := HIN.out.watch.size; omega, fun e => by have := (hown b e).1; omega⟩)
    · obtain rfl : i = l.length := by omega
      have hf := HIN.out
      obtain ⟨xa, xc, rfl⟩ := hf.row.form
      have hc : ClksAt wr (fun b => w.heap.size ≤ b) (.slice xa vs.length xc) l.length (clockAt rooms l) := ⟨vs, hf.row.cells.mono (fun b hb => Nat.le_trans hwB (hf.own b hb).1), hf.len, fun j y hy => (hf.clk j y hy).mono (fun b hb => Nat.le_trans hwB hb.1.1.1)⟩
      have HF := hid (And.intro hc hf.keep)
      clear hf hc hlt hik HIN
      go_wp2_with fail
      go_ret2
      exact ⟨_, rfl, HF.out⟩
end Go.Proofs.YtalihehmbiohlaaDoor
