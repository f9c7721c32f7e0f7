/-
  Step by step: 'slices.Clone', 'slices.Grow', 'slices.Concat' of bytes.
-/
import Derived.Test.YtnpneippahdigaaDoorWireA
namespace Go.Proofs.YtnpneippahdigaaDoor
open Go.RowKit Go.Proofs.Mem

theorem cells_form {w : World} {p : Nat → Prop} {v : Value} {cs : List Value} (h : Cells w p v cs) : ∃ a n c, v = .slice a n c := by
  obtain ⟨a, n, c, e, _⟩ := h
  exact ⟨a, n, c, e⟩
theorem u8_info : ∃ i0, Tryd.prog.info? 5 = some i0 ∧ i0.zero = some (.int .u8 0) ∧ i0.size = 1 ∧ i0.bytes = 1 := by
  obtain ⟨i0, h1, h2, h3, h4⟩ := info_parts (show (Tryd.prog.info? 5).map (fun i => (i.zero, i.size, i.bytes)) = some (some (.int .u8 0), 1, 1) by kernel_rfl)
  exact ⟨i0, h1, h2, h3, h4⟩
/-- append of bytes onto a row of its own. -/
theorem u8_append_at (w : World) (ty : TypeId) (v u : Value) (cs news : List Value) {p : Nat → Prop} (hown : Row w 5 v cs) (hu : Cells w p u news) (h1 : ∀ x ∈ news, x.oneCell' = true) (hb : cs.length + news.length ≤ 140737488355328) :
    ∃ v' w', (Builtin.append_ #[32, 32] ty #[v, u]).run Tryd.prog w = .ok v' w' ∧ (Row w' 5 v' (cs ++ news) ∧ Keep (fun k => k < w.heap.size ∧ v.ownBlock ≠ some k) w w' ∧ ∀ k, v'.ownBlock = some k → v.ownBlock = some k ∨ w.heap.size ≤ k) := by
  obtain ⟨i0, hi0, hz0, hs0, hb0⟩ := u8_info
  exact append_at (P := Tryd.prog) 32 5 i0 (.int .u8 0) 1 Tryd.underlying32 hi0 hz0 hs0 hb0 rfl w ty v u cs news hown hu h1 (by omega) (by omega)

/-- a row of its own that lies in no block below B. -/
structure Fresh (w : World) (B : Nat) (v : Value) (cs : List Value) : Prop where
  row : Row w 5 v cs
  own : ∀ k, v.ownBlock = some k → B ≤ k
theorem Fresh.cells {w : World} {B : Nat} {v : Value} {cs : List Value} (h : Fresh w B v cs) : Cells w (fun b => B ≤ b) v cs := h.row.cells.mono h.own
theorem Fresh.keep {w w' : World} {B : Nat} {v : Value} {cs : List Value} {q : Nat → Prop} (h : Fresh w B v cs) (k : Keep q w w') (hq : ∀ b, B ≤ b → b < w.heap.size → q b) : Fresh w' B v cs :=
  ⟨h.row.keep k (fun b hb => hq b (h.own b hb) (h.row.lt hb)), h.own⟩
theorem Fresh.mono {w : World} {B C : Nat} {v : Value} {cs : List Value} (h : Fresh w B v cs) (hc : C ≤ B) : Fresh w C v cs := ⟨h.row, fun k hk => Nat.le_trans hc (h.own k hk)⟩

set_option maxRecDepth 100000 in
theorem clone_walk (v : Value) (xs : List Nat) (w : World) (p : Nat → Prop) (hl : xs.length ≤ 1099511627776) (hv : Cells w p v (ints .u8 xs)) :
    Calls Tryd.prog 66 #[v] w fun e w' => ∃ v', e = .returned v' ∧ Fresh w' w.heap.size v' (ints .u8 xs) ∧ Keep (· < w.heap.size) w w' ∧ w.heap.size ≤ w'.heap.size := by
  obtain ⟨a1, n1, c1, rfl, e1, m1, q1, hcc⟩ := id hv
  have en := fun w0 : World => Lib.run_eql_slice_nil (P := Tryd.prog) w0 32 5 a1 n1 c1 0 0 Tryd.underlying32
  cases a1 with
  | none =>
    have h0 : n1 = 0 := by
      rcases Nat.eq_zero_or_pos n1 with h | h
      · exact h
      · obtain ⟨_, _, h', _⟩ := hcc h; cases h'
    have hx : xs = [] := List.eq_nil_of_length_eq_zero (by rw [ints_length] at e1; omega)
    subst hx
    have HV := hid hv
    clear hv hcc e1 h0
    go_enter Tryd.func66, Tryd.ntmps66
    go_wp2_with fail
    go_ret
    exact ⟨_, rfl, ⟨Row.nil _ _, fun k hk => by cases hk⟩, Keep.refl _ _, Nat.le_refl _⟩
  | some a =>
    have HV := hid (hv.lt.mono (q := fun b => b < w.heap.size) (fun _ h => h.1))
    obtain ⟨i0, hi0, hz0, hs0, hb0⟩ := u8_info
    have HA := hid (append_first (P := Tryd.prog) 32 5 i0 (.int .u8 0) 1 Tryd.underlying32 hi0 hz0 hs0 hb0 rfl w 32 _ (ints .u8 xs) HV.out (ints_one _ _) (by rw [ints_length]; omega))
    clear hv hcc e1 hi0 hz0 hs0 hb0
    go_enter Tryd.func66, Tryd.ntmps66
    go_wp2_with (at_builtin; refine wpList_app rfl (.tmp 5) (.tmp 6) 32 32 rfl _ HA.out ?_; rintro v1 w1 ⟨r1, k1, z1⟩)
    go_ret
    refine ⟨v1, rfl, ⟨⟨r1.1, ?_⟩, fun k hk => ?_⟩, k1, z1⟩
    · rcases r1.2 with h | ⟨g, c, cur, h1, h2, h3⟩
      · exact .inl h
      · exact .inr ⟨g, c, cur, h1, Nat.zero_le _, h3⟩
    · exact (r1.lt k hk).1

set_option maxRecDepth 100000 in
theorem grow_walk (n : Nat) (w : World) (hn : n ≤ 70368744177664) :
    Calls Tryd.prog 89 #[.slice none 0 0, .int .i64 (n : Int)] w fun e w' => ∃ v', e = .returned v' ∧ Fresh w' w.heap.size v' [] ∧ Keep (· < w.heap.size) w w' ∧ w.heap.size ≤ w'.heap.size := by
  have n1 : ¬ ((n : Int) < 0) := by omega
  by_cases h0 : n = 0
  · subst h0
    clear n1 hn
    go_enter Tryd.func89, Tryd.ntmps89
    go_wp2_with fail
    go_ret
    exact ⟨_, rfl, ⟨Row.nil _ _, fun k hk => by cases hk⟩, Keep.refl _ _, Nat.le_refl _⟩
  · obtain ⟨i0, hi0, hz0, hs0, hb0⟩ := u8_info
    have h1 : (0 : Int) < (n : Int) := by omega
    have h2 : 0 < n := by omega
    have hr := Lib.run_append_nil_zeros (P := Tryd.prog) w 32 3 32 5 i0 (.int .u8 0) .i64 .i64 Tryd.underlying32 Tryd.underlying3 hi0 hz0 n h2 (by omega) (by omega) (by rw [hb0]; omega)
    have hg := grownCap_ge w n 0 5
    have hm := grownCap_le_maxLen w n 0 5 (by unfold maxLen; omega)
    obtain ⟨C, hC⟩ : ∃ C, grownCap w n 0 5 = C := ⟨_, rfl⟩
    rw [hC] at hr hg hm
    have hm' : C ≤ 9223372036854775807 := by simpa [maxLen] using hm
    obtain ⟨Z, hZ⟩ : ∃ Z : Array Value, Builtin.zeroCells (Value.int .u8 0).cells n ++ Builtin.zeroCells (Value.int .u8 0).cells (C - n) = Z := ⟨_, rfl⟩
    rw [hZ] at hr
    have hZs : Z.size = C := by rw [← hZ]; simp [Builtin.zeroCells, Value.cells]; omega
    have HR := hid hr
    have HZ := hid hZs
    clear hi0 hz0 hs0 hb0 hr hZ hZs hC h0
    go_enter Tryd.func89, Tryd.ntmps89
    go_wp2_with (at_builtin; refine Lib.wpList_append_run _ rfl _ _ _ _ rfl _ _ rfl rfl _ _ HR.out ?_)
    go_ret
    refine ⟨_, rfl, ⟨⟨rfl, .inr ⟨w.heap.size, C, Z, rfl, Nat.zero_le _, heap_alloc_new w.drew _, Nat.zero_le _, hm, by rw [HZ.out, Nat.mul_one], rfl⟩⟩, fun k hk => ?_⟩, ((Keep.refl _ _).drew).alloc _ (fun _ h => h), by simp⟩
    simp only [Value.ownBlock] at hk
    injection hk with hk
    exact Nat.le_of_eq hk

/-- slices of bytes, each read. -/
def Rws (w : World) (p : Nat → Prop) (vs : List Value) (xss : List (List Nat)) : Prop := vs.length = xss.length ∧ ∀ i, i < vs.length → Cells w p (vs.getD i undef) (ints .u8 (xss.getD i []))
theorem Rws.nil (w : World) (p : Nat → Prop) : Rws w p [] [] := ⟨rfl, fun i hi => by simp at hi⟩
theorem Rws.cons {w : World} {p : Nat → Prop} {v : Value} {xs : List Nat} {vs : List Value} {xss : List (List Nat)} (h : Cells w p v (ints .u8 xs)) (t : Rws w p vs xss) : Rws w p (v :: vs) (xs :: xss) := by
  refine ⟨by simp [t.1], fun i hi => ?_⟩
  cases i with
  | zero => simpa using h
  | succ i => simpa using t.2 i (by simpa using hi)
theorem Rws.keep {w w' : World} {p q : Nat → Prop} {vs : List Value} {xss : List (List Nat)} (h : Rws w p vs xss) (k : Keep q w w') (hq : ∀ b, p b → q b) : Rws w' p vs xss := ⟨h.1, fun i hi => (h.2 i hi).keep k hq⟩
def total (xss : List (List Nat)) : Nat := (xss.map List.length).foldr (· + ·) 0
theorem total_take (xss : List (List Nat)) (i : Nat) (h : i < xss.length) : total (xss.take (i + 1)) = total (xss.take i) + (xss.getD i []).length := by
  have e : xss.take (i + 1) = xss.take i ++ [xss[i]] := by rw [List.take_succ_eq_append_getElem h]
  have : ∀ (a : List (List Nat)) (x : List Nat), total (a ++ [x]) = total a + x.length := by
    intro a x
    induction a with
    | nil => simp [total]
    | cons y a ih => simp only [total, List.cons_append, List.map_cons, List.foldr_cons] at *; omega
  rw [e, this, List.getD_eq_getElem?_getD, List.getElem?_eq_getElem h]
  rfl
theorem total_take_le (xss : List (List Nat)) (i : Nat) : total (xss.take i) ≤ total xss := by
  induction xss generalizing i with
  | nil => simp
  | cons x xss ih =>
    cases i with
    | zero => simp [total]
    | succ i => have := ih i; simp only [total, List.take_succ_cons, List.map_cons, List.foldr_cons] at *; omega
theorem flat_take (xss : List (List Nat)) (i : Nat) (h : i < xss.length) : (xss.take (i + 1)).flatten = (xss.take i).flatten ++ xss.getD i [] := by
  rw [List.take_succ_eq_append_getElem h, List.flatten_append, List.getD_eq_getElem?_getD, List.getElem?_eq_getElem h]
  simp
theorem flat_length (xss : List (List Nat)) : xss.flatten.length = total xss := by
  induction xss with
  | nil => rfl
  | cons x xss ih => simp only [List.flatten_cons, List.length_append, ih, total, List.map_cons, List.foldr_cons]

set_option maxRecDepth 100000 in
set_option maxHeartbeats 1000000 in
theorem concat_walk (u : Value) (vs : List Value) (xss : List (List Nat)) (w : World) (p p' : Nat → Prop) (ht : total xss ≤ 70368744177664) (hu : Cells w p u vs) (hv : Rws w p' vs xss) :
    Calls Tryd.prog 71 #[u] w fun e w' => ∃ v', e = .returned v' ∧ Fresh w' w.heap.size v' (ints .u8 xss.flatten) ∧ Keep (· < w.heap.size) w w' ∧ w.heap.size ≤ w'.heap.size := by
  have HU := hid (hu.lt.mono (q := fun b => b < w.heap.size) (fun _ h => h.1))
  have HV := hid (show Rws w (fun b => b < w.heap.size) vs xss from ⟨hv.1, fun i hi => (hv.2 i hi).lt.mono (fun _ h => h.1)⟩)
  obtain ⟨a1, n1, c1, rfl, e1, m1, q1, _⟩ := HU.out
  subst e1
  have q1' : c1 ≤ 9223372036854775807 := by simpa [maxLen] using q1
  have HL := hid hv.1
  clear hu hv q1
  obtain ⟨L, hL⟩ : ∃ L, vs.length = L := ⟨_, rfl⟩
  have HL2 := hid hL
  have hLc : L ≤ 9223372036854775807 := by omega
  have HU2 := hid (show ∀ i, i < L → ∃ blk off v, a1 = some ⟨blk, off, none⟩ ∧ blk < w.heap.size ∧ w.cell? ⟨blk, off + i, none⟩ = some v ∧ Cells w (fun b => b < w.heap.size) v (ints .u8 (xss.getD i [])) by
    intro i hi
    obtain ⟨a, l, c, e, h1, h2, h3, h4⟩ := HU.out
    injection e with e2 e3 e4
    obtain ⟨blk, off, ha, hb, hc⟩ := h4 (by omega)
    refine ⟨blk, off, vs.getD i undef, e2.trans ha, hb, ?_, HV.out.2 i (by omega)⟩
    rw [hc i (by omega), List.getD_eq_getElem?_getD, List.getElem?_eq_getElem (by omega)]; rfl)
  rw [hL]
  clear hL
  go_enter Tryd.func71, Tryd.ntmps71
  go_wp2_with fail
  go_loopg [3, 11] L (fun k s3 s11 wr => ∃ i t : Nat, i + k = L ∧ s11 = .int .i64 (i : Int) ∧ s3 = .int .i64 (t : Int) ∧ Hid (t = total (xss.take i)) ∧ wr = w)
  case atStart => exact ⟨0, 0, by omega, rfl, rfl, hid (by simp [total]), rfl⟩
  case round =>
    obtain ⟨i, t, hi, rfl, rfl, hq, rfl⟩ := hrel
    by_cases hlt : i < L
    · obtain ⟨blk, off, x, rfl, hb, cx, hx⟩ := HU2.out i hlt
      obtain ⟨ax, nx, cpx, rfl, ex, mx, qx, _⟩ := id hx
      rw [ints_length] at ex
      have qx' : cpx ≤ 9223372036854775807 := by simpa [maxLen] using qx
      have h1 := total_take xss i (by rw [← HL.out, HL2.out]; exact hlt)
      have h2 := total_take_le xss (i + 1)
      have hqo := hq.out
      have hs : t + nx ≤ 70368744177664 := by omega
      have l0 : (i : Int) < (L : Int) := by omega
      have s0 : ¬ ((t : Int) + (nx : Int) < 0) := by omega
      have HH := hid (show t + nx = total (xss.take (i + 1)) by omega)
      clear h1 h2 hqo hx qx ex
      go_wp2_with fail
      go_roundg (gk - 1)
      case measure => omega
      case rel => exact ⟨i + 1, t + nx, by omega, by go_num, by go_num, HH, rfl⟩
    · obtain rfl : i = L := by omega
      have hqt : t ≤ 70368744177664 := by have := total_take_le xss i; have := hq.out; omega
      clear hq
      go_wp2_with fail
      refine (grow_walk t wr hqt).mono ?_
      rintro e w1 ⟨v1, rfl, f1, k1, z1⟩
      have H1 := hid (And.intro f1 k1)
      clear f1 k1
      obtain ⟨wo, rfl⟩ : ∃ wo : World, wo = wr := ⟨_, rfl⟩
      go_wp2_with fail
      go_loopg [6, 27] i (fun k s6 s27 wx => ∃ j : Nat, j + k = i ∧ s27 = .int .i64 (j : Int) ∧ Fresh wx wo.heap.size s6 (ints .u8 (xss.take j).flatten) ∧ Keep (· < wo.heap.size) wo wx ∧ wo.heap.size ≤ wx.heap.size)
      case atStart => exact ⟨0, by omega, rfl, by have := H1.out.1; rwa [List.take_zero], H1.out.2, z1⟩
      case round =>
        obtain ⟨j, hj, rfl, hf, hk, hz⟩ := hrel
        have HF := hid (And.intro hf hk)
        clear hf hk
        by_cases hlt : j < i
        · obtain ⟨blk, off, x, rfl, hb, cx, hx⟩ := HU2.out j hlt
          have cx' : wr.cell? ⟨blk, off + j, none⟩ = some x := (HF.out.2.cell (x := ⟨blk, off + j, none⟩) hb).trans cx
          have l0 : (j : Int) < (i : Int) := by omega
          have hlen : ((ints .u8 (xss.take j).flatten).length + (ints .u8 (xss.getD j [])).length) ≤ 140737488355328 := by
            rw [ints_length, ints_length, flat_length]
            have h1 := total_take xss j (by rw [← HL.out, HL2.out]; exact hlt)
            have h2 := total_take_le xss (j + 1)
            omega
          have HA := hid (u8_append_at _ 32 _ x _ _ HF.out.1.row (hx.keep HF.out.2 (fun _ h => h)) (ints_one _ _) hlen)
          clear cx hx hlen
          go_wp2_with (at_builtin; refine wpList_app rfl (.tmp 31) (.tmp 32) 32 32 rfl _ HA.out ?_; rintro v3 w3 ⟨r3, k3, o3⟩)
          go_roundg (gk - 1)
          case measure => omega
          case rel =>
            refine ⟨j + 1, by omega, by go_num, ⟨?_, fun b hb' => ?_⟩, HF.out.2.trans (k3.mono (fun b hb' => ⟨Nat.lt_of_lt_of_le hb' hz, fun h => by have := HF.out.1.own b h; omega⟩)), Nat.le_trans hz k3.size⟩
            · rw [flat_take xss j (by rw [← HL.out, HL2.out]; exact hlt), ints_append]; exact r3
            · rcases o3 b hb' with h | h
              · exact HF.out.1.own b h
              · exact Nat.le_trans hz h
        · obtain rfl : j = i := by omega
          have hf := HF.out.1
          rw [List.take_of_length_le (by rw [← HL.out, HL2.out]; exact Nat.le_refl _)] at hf
          have HG := hid (And.intro hf HF.out.2)
          clear hf HF
          go_wp2_with fail
          go_ret
          exact ⟨_, rfl, HG.out.1, HG.out.2, hz⟩
end Go.Proofs.YtnpneippahdigaaDoor
