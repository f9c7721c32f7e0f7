/-
  Step by step: 'New' of package wire: a table of keys and last numbers.
-/
import Derived.Test.YtnpneippahdigaaDoorWireF
import Derived.Maps.AppendAt
namespace Go.Proofs.YtnpneippahdigaaDoor
open Go.RowKit Go.Proofs.Mem Go.Proofs.Txt

def okKeys (keys : List (List Nat)) : Bool := decide (1 ≤ keys.length) && decide (keys.length ≤ 8) && keys.all (fun k => decide (1 ≤ k.length) && decide (k.length ≤ 64))
theorem okKeys_iff (keys : List (List Nat)) : okKeys keys = true ↔ 1 ≤ keys.length ∧ keys.length ≤ 8 ∧ ∀ k ∈ keys, 1 ≤ k.length ∧ k.length ≤ 64 := by simp [okKeys, and_assoc]

/-- block tb is a table, g its entries; all of it lies from B on, below U. -/
def TableAt (w : World) (B U tb g : Nat) (keys : List (List Nat)) (lasts : List Nat) : Prop :=
  ∃ (cap : Nat) (kvs : List Value) (cur : Array Value), w.heap[tb]? = some (.cells #[.slice (some ⟨g, 0, none⟩) keys.length cap] 134 (0, 0)) ∧ w.heap[g]? = some (.cells cur 136 (0, 0)) ∧ lasts.length = keys.length ∧ keys.length ≤ cap ∧ cap ≤ 9223372036854775807 ∧ g ≠ tb ∧ (B ≤ tb ∧ tb < U) ∧ (B ≤ g ∧ g < U ∧ U ≤ w.heap.size) ∧
    ∀ i, i < keys.length → w.cell? ⟨g, i * 2, none⟩ = some (kvs.getD i undef) ∧ w.cell? ⟨g, i * 2 + 1, none⟩ = some (.int .i64 (lasts.getD i 0 : Nat)) ∧ Cells w (fun b => B ≤ b ∧ b < U ∧ b ≠ tb ∧ b ≠ g) (kvs.getD i undef) (ints .u8 (keys.getD i []))
theorem TableAt.keep {w w' : World} {B U tb g : Nat} {keys : List (List Nat)} {lasts : List Nat} {q : Nat → Prop} (h : TableAt w B U tb g keys lasts) (k : Keep q w w') (hq : ∀ b, B ≤ b → b < U → q b) : TableAt w' B U tb g keys lasts := by
  obtain ⟨cap, kvs, cur, h1, h2, h3, h4, h5, h6, h7, h8, h9⟩ := h
  have qt := hq tb h7.1 h7.2
  have qg := hq g h8.1 h8.2.1
  refine ⟨cap, kvs, cur, (k.block _ qt).trans h1, (k.block _ qg).trans h2, h3, h4, h5, h6, h7, ⟨h8.1, h8.2.1, Nat.le_trans h8.2.2 k.size⟩, fun i hi => ?_⟩
  obtain ⟨a, b, c⟩ := h9 i hi
  exact ⟨(k.cell (x := ⟨g, i * 2, none⟩) qg).trans a, (k.cell (x := ⟨g, i * 2 + 1, none⟩) qg).trans b, c.keep k (fun b hb => hq b hb.1 hb.2.1)⟩
theorem TableAt.lt {w : World} {B U tb g : Nat} {keys : List (List Nat)} {lasts : List Nat} (h : TableAt w B U tb g keys lasts) : B ≤ tb ∧ tb < U ∧ B ≤ g ∧ g < U ∧ g ≠ tb ∧ U ≤ w.heap.size := by
  obtain ⟨cap, kvs, cur, h1, h2, h3, h4, h5, h6, h7, h8, h9⟩ := h
  exact ⟨h7.1, h7.2, h8.1, h8.2.1, h6, h8.2.2⟩

/-- while a table is made. -/
structure NewAt (w : World) (B tb : Nat) (tv : Value) (kvs : List Value) (keys : List (List Nat)) (n : Nat) : Prop where
  blk : w.heap[tb]? = some (.cells #[tv] 134 (0, 0))
  row : w.ownsRow 0 136 2 tv n (kvs.flatMap fun k => [k, .int .i64 0])
  len : kvs.length = n
  own : ∀ k, tv.ownBlock = some k → B ≤ k ∧ k ≠ tb
  le : B ≤ tb
  key : ∀ i, i < n → Cells w (fun b => B ≤ b ∧ b ≠ tb ∧ tv.ownBlock ≠ some b) (kvs.getD i undef) (ints .u8 (keys.getD i []))
theorem flat2_length (kvs : List Value) : (kvs.flatMap fun k => [k, Value.int .i64 0]).length = kvs.length * 2 := by
  induction kvs with
  | nil => rfl
  | cons k kvs ih => simp only [List.flatMap_cons, List.length_append, List.length_cons, List.length_nil, ih]; omega
theorem flat2_get (kvs : List Value) : ∀ i, i < kvs.length → (kvs.flatMap fun k => [k, Value.int .i64 0])[i * 2]? = some (kvs.getD i undef) ∧ (kvs.flatMap fun k => [k, Value.int .i64 0])[i * 2 + 1]? = some (.int .i64 0) := by
  induction kvs with
  | nil => intro i hi; simp at hi
  | cons k kvs ih =>
    intro i hi
    cases i with
    | zero => exact ⟨rfl, rfl⟩
    | succ i =>
      have := ih i (by simpa using hi)
      simp only [List.flatMap_cons, List.cons_append, List.nil_append, List.getD_cons_succ]
      rw [show (i + 1) * 2 = i * 2 + 1 + 1 by omega, List.getElem?_cons_succ, List.getElem?_cons_succ, List.getElem?_cons_succ, List.getElem?_cons_succ]
      exact this
theorem NewAt.table {w : World} {B tb : Nat} {tv : Value} {kvs : List Value} {keys : List (List Nat)} (h : NewAt w B tb tv kvs keys keys.length) (h0 : 0 < keys.length) : ∃ g, TableAt w B w.heap.size tb g keys (List.replicate keys.length 0) := by
  obtain ⟨h1, h2, h3, h4, h5, h6⟩ := h
  rcases h2.2 with ⟨_, hn⟩ | ⟨g, cap, cur, rfl, hg, hgg, hnc, hcm, hcs, htk⟩
  · omega
  · have hown := h4 g rfl
    refine ⟨g, cap, kvs, cur, h1, hgg, by simp, hnc, by simpa [maxLen] using hcm, hown.2, ⟨h5, (Array.getElem?_eq_some_iff.1 h1).1⟩, ⟨hown.1, (Array.getElem?_eq_some_iff.1 hgg).1, Nat.le_refl _⟩, fun i hi => ?_⟩
    have hf := flat2_get kvs i (by omega)
    have hcell : ∀ j, j < keys.length * 2 → w.cell? ⟨g, j, none⟩ = (kvs.flatMap fun k => [k, Value.int .i64 0])[j]? := fun j hj => by
      have e := congrArg (fun l : List Value => l[j]?) htk
      simp only [List.getElem?_take, hj, if_true] at e
      rw [← e]
      simp [World.cell?, hgg]
    refine ⟨(hcell _ (by omega)).trans hf.1, ?_, (h6 i hi).lt.mono (fun b hb => ⟨hb.2.1, hb.1, hb.2.2.1, fun e => hb.2.2.2 (by rw [e]; rfl)⟩)⟩
    rw [hcell _ (by omega), hf.2, List.getD_eq_getElem?_getD, List.getElem?_replicate, if_pos hi]
    rfl

theorem lay_entry : structLay Tryd.prog 136 = some ([.slice none 0 0, .int .i64 0], [(0, 1), (1, 1)]) := by kernel_rfl
theorem build_entry (v : Value) (hv : v.cells = #[v]) (w : World) : (Instr.build 136 #[(0, v)]).run Tryd.prog w = .ok (.agg #[v, .int .i64 0]) w := by
  refine run_build w _ _ _ ?_
  rw [built_struct lay_entry, fill_cons (off := 0) (size := 1) (xs := [v]) rfl (by rw [hv]) rfl (by simp)]
  rfl

/-- the append of one entry. -/
theorem entry_append (w : World) (ty : TypeId) (v kv : Value) (n : Nat) (cs : List Value) (hown : w.ownsRow 0 136 2 v n cs) (h1 : kv.oneCell' = true) (hn : n ≤ 1000) :
    ∃ v' w', (Builtin.append_ #[132, 132] ty #[v, .slice (some ⟨w.heap.size, 0, none⟩) 1 1]).run Tryd.prog (w.alloc (.cells #[kv, .int .i64 0] 136)) = .ok v' w' ∧
      (w'.ownsRow 0 136 2 v' (n + 1) (cs ++ [kv, .int .i64 0]) ∧ Keep (fun k => k < w.heap.size ∧ v.ownBlock ≠ some k) w w' ∧ ∀ k, v'.ownBlock = some k → v.ownBlock = some k ∨ w.heap.size ≤ k) := by
  obtain ⟨i0, hi0, hz0, hs0, hb0⟩ := info_parts (show (Tryd.prog.info? 136).map (fun i => (i.zero, i.size, i.bytes)) = some (some (.agg #[.slice none 0 0, .int .i64 0]), 2, 32) by kernel_rfl)
  have k0 : Keep (· < w.heap.size) w (w.alloc (.cells #[kv, .int .i64 0] 136)) := (Keep.refl _ _).alloc _ (fun _ h => h)
  have hown' := hown.alloc (.cells #[kv, .int .i64 0] 136)
  obtain ⟨v', w', hr, h6, h7, _, h8⟩ := run_append_own_at (P := Tryd.prog) (w.alloc (.cells #[kv, .int .i64 0] 136)) 0 132 ty 136 i0 _ 2 32 Tryd.underlying132 hi0 hz0 hs0 hb0 rfl (by decide) v n cs hown' ⟨w.heap.size, 0, none⟩ 1 1 [kv, .int .i64 0] rfl (fun j u hj => by
      rw [addr_add]
      have := cell_at (w := w.alloc (.cells #[kv, .int .i64 0] 136)) (b := w.heap.size) (cs := [kv, .int .i64 0]) (heap_alloc_new w _) (0 + j)
      rw [this, Nat.zero_add]; exact hj) (fun u hu => by
      simp only [List.mem_cons, List.not_mem_nil, or_false] at hu
      rcases hu with rfl | rfl
      · exact h1
      · rfl) (by unfold maxLen; omega) (by omega) (Nat.zero_le _)
  refine ⟨v', w', hr, h6, (k0.mono (fun k (h : k < w.heap.size ∧ v.ownBlock ≠ some k) => h.1)).trans ⟨h7.os, h7.tape, h7.output, h7.size, fun k hk => h7.block k (by simp; omega) (fun e => hk.2 e.symm)⟩, fun k hk => ?_⟩
  rcases h8 with h8 | h8
  · exact .inl (h8 ▸ hk)
  · rw [hk] at h8; injection h8 with h8; right; simp at h8; omega

def NewSaid (w : World) (keys : List (List Nat)) (ev : Value) (e : Ending) (w' : World) : Prop :=
  ((okKeys keys = true ∧ ∃ tb g, e = .returned (.tuple #[.pointer (some ⟨tb, 0, none⟩), .nilIface]) ∧ TableAt w' w.heap.size w'.heap.size tb g keys (List.replicate keys.length 0)) ∨ (okKeys keys = false ∧ e = .returned (.tuple #[.pointer none, ev]))) ∧ Keep (· < w.heap.size) w w'

set_option maxRecDepth 100000 in
set_option maxHeartbeats 2000000 in
theorem wnew_any (u : Value) (vs : List Value) (keys : List (List Nat)) (ev : Value) (w : World) (p p' : Nat → Prop) (hu : Cells w p u vs) (hv : Rws w p' vs keys) (he : w.cell? ⟨1, 0, none⟩ = some ev) (hl : 1 < w.heap.size) :
    Calls Tryd.prog 35 #[u] w (NewSaid w keys ev) := by
  have HU := hid (hu.lt.mono (q := fun b => b < w.heap.size) (fun _ h => h.1))
  have HV := hid (show Rws w (fun b => b < w.heap.size) vs keys from ⟨hv.1, fun i hi => (hv.2 i hi).lt.mono (fun _ h => h.1)⟩)
  have HE := hid he
  obtain ⟨a1, n1, c1, rfl, e1, m1, q1, _⟩ := HU.out
  subst e1
  have q1' : c1 ≤ 9223372036854775807 := by simpa [maxLen] using q1
  have HL := hid hv.1
  clear hu hv q1 he
  obtain ⟨L, hL⟩ : ∃ L, vs.length = L := ⟨_, rfl⟩
  have HL2 := hid (show keys.length = L from HL.out.symm.trans hL)
  have hLc : L ≤ 9223372036854775807 := by omega
  have HU2 := hid (show ∀ i, i < L → ∃ blk off v, a1 = some ⟨blk, off, none⟩ ∧ blk < w.heap.size ∧ w.cell? ⟨blk, off + i, none⟩ = some v ∧ Cells w (fun b => b < w.heap.size) v (ints .u8 (keys.getD i [])) by
    intro i hi
    obtain ⟨a, l, c, e, h1, h2, h3, h4⟩ := HU.out
    injection e with e2 e3 e4
    obtain ⟨blk, off, ha, hb, hc⟩ := h4 (by omega)
    refine ⟨blk, off, vs.getD i undef, e2.trans ha, hb, ?_, HV.out.2 i (by omega)⟩
    rw [hc i (by omega), List.getD_eq_getElem?_getD, List.getElem?_eq_getElem (by omega)]; rfl)
  rw [hL]
  clear hL
  by_cases c0 : L < 1
  · have t1 : decide ((L : Int) < 1) = true := by simp; omega
    have HO := hid (show okKeys keys = false by
      cases h : okKeys keys with
      | false => rfl
      | true => have := ((okKeys_iff keys).1 h).1; have := HL2.out; omega)
    have he := HE.out
    clear c0
    go_enter Tryd.func35, Tryd.ntmps35
    go_wp2_with fail
    go_quiet (fail)
    go_wp2_with fail
    go_ret2
    exact ⟨.inr ⟨HO.out, rfl⟩, (Keep.refl _ _).drewN _⟩
  have t1 : decide ((L : Int) < 1) = false := by simp; omega
  by_cases c8 : 8 < L
  · have t2 : decide ((8 : Int) < (L : Int)) = true := by simp; omega
    have HO := hid (show okKeys keys = false by
      cases h : okKeys keys with
      | false => rfl
      | true => have := ((okKeys_iff keys).1 h).2.1; have := HL2.out; omega)
    have he := HE.out
    clear c0 c8
    go_enter Tryd.func35, Tryd.ntmps35
    go_wp2_with fail
    go_quiet (fail)
    go_wp2_with fail
    go_ret2
    exact ⟨.inr ⟨HO.out, rfl⟩, (Keep.refl _ _).drewN _⟩
  have t2 : decide ((8 : Int) < (L : Int)) = false := by simp; omega
  have l8 : L ≤ 8 := by omega
  clear c0 c8
  go_enter Tryd.func35, Tryd.ntmps35
  go_wp2_with fail
  refine wp_world (fun w1 => Keep (· < w.heap.size) w w1 ∧ w1.heap[w.heap.size]? = some (.cells #[.slice none 0 0] 134 (0, 0))) ⟨(Keep.refl _ _).alloc _ (fun _ h => h), heap_alloc_new w _⟩ ?_
  rintro w1 ⟨k1, R1⟩
  have H1 := hid (And.intro k1 R1)
  clear k1 R1
  go_loopg [20] L (fun k s20 wr => ∃ (i : Nat) (tv : Value) (kvs : List Value), i + k = L ∧ s20 = .int .i64 (i : Int) ∧ NewAt wr w.heap.size w.heap.size tv kvs keys i ∧ (∀ j, j < i → 1 ≤ (keys.getD j []).length ∧ (keys.getD j []).length ≤ 64) ∧ Keep (· < w.heap.size) w wr)
  case atStart => exact ⟨0, .slice none 0 0, [], by omega, rfl, ⟨H1.out.2, World.ownsRow_nil _ 0 _ 2, rfl, fun k hk => (by cases hk), Nat.le_refl _, fun i hi => (by omega)⟩, fun j hj => (by omega), H1.out.1⟩
  case round =>
    obtain ⟨i, tv, kvs, hi, rfl, hna, hall, hk⟩ := hrel
    have HN := hid (And.intro hna (And.intro hall hk))
    clear hna hall hk
    by_cases hlt : i < L
    · obtain ⟨blk, off, x, rfl, hb, cx, hx⟩ := HU2.out i hlt
      obtain ⟨ax, nx, cpx, rfl⟩ := cells_form hx
      have hnx : nx = (keys.getD i []).length := by
        obtain ⟨_, _, _, e, h1, _⟩ := id hx
        injection e with _ e2 _
        rw [e2, h1, ints_length]
      have cx' : wr.cell? ⟨blk, off + i, none⟩ = some (.slice ax nx cpx) := (HN.out.2.2.cell (x := ⟨blk, off + i, none⟩) hb).trans cx
      have hmem : keys.getD i [] ∈ keys := by
        rw [List.getD_eq_getElem?_getD, List.getElem?_eq_getElem (by rw [HL2.out]; exact hlt)]
        exact List.getElem_mem _
      have l0 : (i : Int) < (L : Int) := by omega
      have HX := hid (And.intro hx (And.intro hnx hmem))
      have he := (HN.out.2.2.cell (x := ⟨1, 0, none⟩) hl).trans HE.out
      clear hx cx hmem
      have HO : nx < 1 ∨ 64 < nx → Hid (okKeys keys = false) := fun h => by
        show okKeys keys = false
        cases hq : okKeys keys with
        | false => rfl
        | true => have := ((okKeys_iff keys).1 hq).2.2 _ HX.out.2.2; have := HX.out.2.1; omega
      by_cases c1 : nx < 1
      · have HO' := HO (.inl c1)
        have t3 : decide ((nx : Int) < 1) = true := by simp; omega
        clear HO c1 hnx
        go_wp2_with fail
        go_quiet (fail)
        go_wp2_with fail
        go_ret2
        exact ⟨.inr ⟨HO'.out, rfl⟩, HN.out.2.2.drewN _⟩
      have t3 : decide ((nx : Int) < 1) = false := by simp; omega
      by_cases c2 : 64 < nx
      · have HO' := HO (.inr c2)
        have t4 : decide ((64 : Int) < (nx : Int)) = true := by simp; omega
        clear HO c1 c2 hnx
        go_wp2_with fail
        go_quiet (fail)
        go_wp2_with fail
        go_ret2
        exact ⟨.inr ⟨HO'.out, rfl⟩, HN.out.2.2.drewN _⟩
      have t4 : decide ((64 : Int) < (nx : Int)) = false := by simp; omega
      have hkl1 : 1 ≤ (keys.getD i []).length ∧ (keys.getD i []).length ≤ 64 := by omega
      have HK1 := hid hkl1
      clear HO c1 c2 hnx hkl1 he
      go_upto_region 9 with fail
      have ztb := (Array.getElem?_eq_some_iff.1 HN.out.1.blk).1
      have ct : wr.cell? ⟨w.heap.size, 0, none⟩ = some tv := by have := cell_at (cs := [tv]) HN.out.1.blk 0; simpa using this
      have ft : wr.frozen? ⟨w.heap.size, 0, none⟩ = false := frozen_at HN.out.1.blk 0
      refine wp_region_plan [true, true, true, true, true, true, false, true, false, false, true, true, false] (.free 0 (.free 1 (.free 2 (.free 3 (.free 4 (.free 5 (.one 6 (.free 7 (.one 8 (.one 9 (.free 10 (.free 11 (.last 12)))))))))))))
        (fun wx => wx.cell? ⟨w.heap.size, 0, none⟩ = some tv) (by kernel_rfl) (by kernel_rfl) ct ?_
      iterate 4 (refine plan_free rfl rfl (fun K hK => ?_); go_simp; refine hK _ ?_; clear hK K)
      refine plan_held tv rfl rfl (fun w0 h0 => by go_simp) (fun K hK => ?_); refine hK _ ?_; clear hK K
      refine plan_free rfl rfl (fun K hK => ?_); go_simp; refine hK _ ?_; clear hK K
      refine plan_one rfl rfl (fun K hK => ?_); go_simp
      have zr := HN.out.2.2.size
      refine (clone_walk _ (keys.getD i []) wr.drew _ (by have := HK1.out.2; omega) ((HX.out.1.keep (HN.out.2.2.drewN 1) (fun _ h => h)))).mono ?_
      rintro e w2 ⟨kv, rfl, fk, k2', z2⟩
      have k2 : Keep (· < wr.heap.size) wr w2 := ((Keep.refl _ wr).drew).trans k2'
      obtain ⟨ka, kn, kc, rfl⟩ := cells_form fk.cells
      refine hK _ _ ⟨(k2.cell (x := ⟨w.heap.size, 0, none⟩) ztb).trans ct, ?_⟩
      clear hK K
      have H2 := hid (And.intro k2 fk)
      have z2' : wr.heap.size ≤ w2.heap.size := z2
      clear k2 k2' fk z2
      have bd := build_entry (.slice ka kn kc) rfl
      refine plan_build rfl rfl 136 [(0, .tmp 39)] rfl (.agg #[.slice ka kn kc, .int .i64 0]) (fun w0 => bd w0) (fun K hK => ?_); refine hK _ ?_; clear hK K
      refine plan_one rfl rfl (fun K hK => ?_); go_simp
      have k3 : Keep (· < w2.heap.size) w2 (w2.alloc (.cells #[.slice ka kn kc, .int .i64 0] 136)) := (Keep.refl _ _).alloc _ (fun _ h => h)
      refine hK _ _ ⟨((k3.cell (x := ⟨w.heap.size, 0, none⟩) (Nat.lt_of_lt_of_le ztb z2')).trans (H2.out.1.cell (x := ⟨w.heap.size, 0, none⟩) ztb)).trans ct, ?_⟩
      clear hK K k3
      have rowlt : ∀ k, tv.ownBlock = some k → k < wr.heap.size := fun k hk => (World.ownsRow.lt HN.out.1.row k hk).2
      have row2 : w2.ownsRow 0 136 2 tv i (kvs.flatMap fun k => [k, .int .i64 0]) := HN.out.1.row.kept (row := none) ⟨H2.out.1.os, H2.out.1.tape, H2.out.1.output, H2.out.1.size, fun j hj _ => H2.out.1.block j hj⟩ (by cases hv : tv.ownBlock <;> simp)
      have HA := hid (entry_append w2 132 tv (.slice ka kn kc) i _ row2 rfl (by omega))
      have RL := hid rowlt
      clear rowlt row2
      refine plan_app rfl rfl (.tmp 37) (.tmp 41) 132 132 rfl _ HA.out ?_
      rintro v4 w4 ⟨r4, k4, o4⟩
      have ptb : w.heap.size < w2.heap.size ∧ tv.ownBlock ≠ some w.heap.size := ⟨Nat.lt_of_lt_of_le ztb z2', fun h => (HN.out.1.own _ h).2 rfl⟩
      have ct4 : w4.cell? ⟨w.heap.size, 0, none⟩ = some tv := ((k4.cell (x := ⟨w.heap.size, 0, none⟩) ptb).trans (H2.out.1.cell (x := ⟨w.heap.size, 0, none⟩) ztb)).trans ct
      have cf4 : w4.frozen? ⟨w.heap.size, 0, none⟩ = false := ((k4.frozen (x := ⟨w.heap.size, 0, none⟩) ptb).trans (H2.out.1.frozen (x := ⟨w.heap.size, 0, none⟩) ztb)).trans ft
      have hb4 : w4.heap[w.heap.size]? = some (.cells #[tv] 134 (0, 0)) := ((k4.block _ ptb).trans (H2.out.1.block _ ztb)).trans HN.out.1.blk
      refine ⟨ct4, ?_⟩
      have H4 := hid (And.intro r4 (And.intro k4 (And.intro o4 hb4)))
      obtain ⟨va, vn, vc, rfl⟩ : ∃ a n c, v4 = .slice a n c := by
        rcases r4.2 with ⟨e, _⟩ | ⟨g, cap, cur, e, _⟩
        · exact ⟨_, _, _, e⟩
        · exact ⟨_, _, _, e⟩
      clear r4 k4 o4 hb4 HA ct ft
      iterate 2 (refine plan_free rfl rfl (fun K hK => ?_); go_simp; refine hK _ ?_; clear hK K)
      refine plan_last rfl rfl (fun K hK => ?_); go_simp
      refine hK _ _ ?_
      clear hK K
      have hset : NewAt (w4.setCell ⟨w.heap.size, 0, none⟩ (.slice va vn vc)) w.heap.size w.heap.size (.slice va vn vc) (kvs ++ [.slice ka kn kc]) keys (i + 1) := by
        have kk : Keep (· ≠ w.heap.size) w4 (w4.setCell ⟨w.heap.size, 0, none⟩ (.slice va vn vc)) := (Keep.refl _ _).setCell _ (fun h => h rfl)
        have hown4 : ∀ k, (Value.slice va vn vc).ownBlock = some k → w.heap.size < k := fun k hk => by
          rcases H4.out.2.2.1 k hk with h | h
          · have := HN.out.1.own k h; omega
          · omega
        refine ⟨?_, ?_, by simp [HN.out.1.len], fun k hk => ⟨Nat.le_of_lt (hown4 k hk), Nat.ne_of_gt (hown4 k hk)⟩, Nat.le_refl _, fun j hj => ?_⟩
        · have := set_at (w := w4) (b := w.heap.size) (cs := [tv]) H4.out.2.2.2 0 (.slice va vn vc)
          simpa using this
        · have h1 := H4.out.1
          rw [List.flatMap_append]
          refine ⟨h1.1, ?_⟩
          rcases h1.2 with h | ⟨g, cap, cur, e, hg, hgg, rest⟩
          · exact .inl h
          · exact .inr ⟨g, cap, cur, e, hg, (kk.block g (by have := hown4 g (by rw [e]; rfl); omega)).trans hgg, rest⟩
        · have kkey : ∀ v xs, Cells w2 (fun b => w.heap.size ≤ b ∧ b ≠ w.heap.size ∧ tv.ownBlock ≠ some b) v (ints .u8 xs) → Cells (w4.setCell ⟨w.heap.size, 0, none⟩ (.slice va vn vc)) (fun b => w.heap.size ≤ b ∧ b ≠ w.heap.size ∧ (Value.slice va vn vc).ownBlock ≠ some b) v (ints .u8 xs) := fun v xs hc => by
            have h1 := hc.lt.keep (q := fun k => k < w2.heap.size ∧ tv.ownBlock ≠ some k) H4.out.2.1 (fun b hb => ⟨hb.1, hb.2.2.2⟩)
            have h2 := h1.keep kk (fun b hb => hb.2.2.1)
            refine h2.mono (fun b hb => ⟨hb.2.1, hb.2.2.1, fun h => ?_⟩)
            rcases H4.out.2.2.1 b h with h' | h'
            · exact hb.2.2.2 h'
            · omega
          by_cases hji : j < i
          · have e1 : (kvs ++ [Value.slice ka kn kc]).getD j undef = kvs.getD j undef := by
              rw [List.getD_eq_getElem?_getD, List.getD_eq_getElem?_getD, List.getElem?_append_left (by rw [HN.out.1.len]; exact hji)]
            rw [e1]
            exact kkey _ _ (((HN.out.1.key j hji).lt.keep H2.out.1 (fun b hb => hb.1)).mono (fun b hb => hb.2))
          · obtain rfl : j = i := by omega
            have e1 : (kvs ++ [Value.slice ka kn kc]).getD j undef = .slice ka kn kc := by
              rw [List.getD_eq_getElem?_getD, List.getElem?_append_right (by rw [HN.out.1.len]; exact Nat.le_refl _), HN.out.1.len, Nat.sub_self]; rfl
            rw [e1]
            refine kkey _ _ (H2.out.2.cells.mono (fun b (hb : wr.heap.size ≤ b) => ⟨by omega, by omega, fun h => by have := RL.out b h; omega⟩))
      have hkeep : Keep (· < w.heap.size) w (w4.setCell ⟨w.heap.size, 0, none⟩ (.slice va vn vc)) :=
        (HN.out.2.2.trans ((H2.out.1.mono (fun b (h : b < w.heap.size) => by omega)).trans (H4.out.2.1.mono (fun b (h : b < w.heap.size) => ⟨by omega, fun h' => by have := (HN.out.1.own b h').1; omega⟩)))).setCell _ (Nat.lt_irrefl _)
      have H5 := hid (And.intro hset hkeep)
      clear hset hkeep bd ct4 cf4
      go_wp2_with fail
      go_roundg (gk - 1)
      case measure => omega
      case rel =>
        refine ⟨i + 1, _, _, by omega, by go_num, H5.out.1, fun j hj => ?_, H5.out.2⟩
        by_cases hji : j < i
        · exact HN.out.2.1 j hji
        · obtain rfl : j = i := by omega
          exact HK1.out
    · obtain rfl : i = L := by omega
      go_wp2_with fail
      go_ret2
      refine ⟨.inl ⟨(okKeys_iff keys).2 ⟨?_, ?_, fun k hk => ?_⟩, w.heap.size, ?_⟩, HN.out.2.2⟩
      · have := HL2.out; have : ¬ ((i : Int) < 1) := by simpa using t1
        omega
      · have := HL2.out; omega
      · obtain ⟨j, hj, rfl⟩ := List.mem_iff_getElem.1 hk
        have := HN.out.2.1 j (by rw [← HL2.out]; exact hj)
        rwa [List.getD_eq_getElem?_getD, List.getElem?_eq_getElem hj] at this
      · have h := HN.out.1
        rw [← HL2.out] at h
        obtain ⟨g, hg⟩ := h.table (by have := HL2.out; have : ¬ ((i : Int) < 1) := by simpa using t1
                                      omega)
        exact ⟨g, rfl, hg⟩
theorem wnew_walk (u : Value) (vs : List Value) (keys : List (List Nat)) (ev : Value) (w : World) (p p' : Nat → Prop) (_ : ∀ k ∈ keys, k.length ≤ 1099511627776) (hu : Cells w p u vs) (hv : Rws w p' vs keys) (he : w.cell? ⟨1, 0, none⟩ = some ev) (hl : 1 < w.heap.size) :
    Calls Tryd.prog 35 #[u] w (NewSaid w keys ev) := wnew_any u vs keys ev w p p' hu hv he hl
end Go.Proofs.YtnpneippahdigaaDoor
