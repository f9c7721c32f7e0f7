/-
  Step by step: 'Sign', 'Right' of package wire.
-/
import Derived.Test.YtnpneippahdigaaDoorWireC
import Derived.Test.YtnpneippahdigaaDoorTag2
import Derived.Test.YtnpneippahdigaaDoorEqual
import Derived.Laws.ResultCell
namespace Go.Proofs.YtnpneippahdigaaDoor
open Go.RowKit Go.Proofs.Mem

def zeros32 : List Nat := List.replicate 32 0
theorem zeros32_length : zeros32.length = 32 := by simp [zeros32]
theorem lay_frame : structLay Tryd.prog 49 = some (frC 0 0 zeros32 (.slice none 0 0), [(0, 1), (1, 1), (2, 32), (34, 1)]) := by kernel_rfl
theorem frC_lay0 (t t' s : Int) (tag : List Nat) (b : Value) : lay (frC t s tag b) 0 [.int .i64 t'] = frC t' s tag b := rfl
theorem frC_lay1 (t s s' : Int) (tag : List Nat) (b : Value) : lay (frC t s tag b) 1 [.int .i64 s'] = frC t s' tag b := rfl
theorem frC_lay2 {tag tag' : List Nat} (h : tag.length = 32) (h' : tag'.length = 32) (t s : Int) (b : Value) : lay (frC t s tag b) 2 (ints .u8 tag') = frC t s tag' b :=
  lay_mid [.int .i64 t, .int .i64 s] (ints .u8 tag) [b] (ints .u8 tag') 2 rfl (by rw [ints_length, ints_length, h, h'])
theorem frC_lay34 {tag : List Nat} (h : tag.length = 32) (t s : Int) (b b' : Value) : lay (frC t s tag b) 34 [b'] = frC t s tag b' := by
  have := lay_mid (.int .i64 t :: .int .i64 s :: ints .u8 tag) [b] [] [b'] 34 (by simp [ints_length, h]) rfl
  simpa [frC] using this
theorem build_frame (t s : Int) (v : Value) (hv : v.cells = #[v]) (w : World) : (Instr.build 49 #[(0, .int .i64 t), (1, .int .i64 s), (3, v)]).run Tryd.prog w = .ok (.agg (frC t s zeros32 v).toArray) w := by
  refine run_build w _ _ _ ?_
  rw [built_struct lay_frame]
  have hz := zeros32_length
  rw [fill_cons (off := 0) (size := 1) (xs := [.int .i64 t]) rfl rfl rfl (by simp [frC_length hz]), frC_lay0]
  rw [fill_cons (off := 1) (size := 1) (xs := [.int .i64 s]) rfl rfl rfl (by simp [frC_length hz]), frC_lay1]
  rw [fill_cons (off := 34) (size := 1) (xs := [v]) rfl (by rw [hv]) rfl (by simp [frC_length hz]), frC_lay34 hz]
  rfl
theorem build_frame4 (t s : Int) (tag : List Nat) (htag : tag.length = 32) (v : Value) (hv : v.cells = #[v]) (w : World) : (Instr.build 49 #[(0, .int .i64 t), (1, .int .i64 s), (2, .agg (ints .u8 tag).toArray), (3, v)]).run Tryd.prog w = .ok (.agg (frC t s tag v).toArray) w := by
  refine run_build w _ _ _ ?_
  rw [built_struct lay_frame]
  have hz := zeros32_length
  rw [fill_cons (off := 0) (size := 1) (xs := [.int .i64 t]) rfl rfl rfl (by simp [frC_length hz]), frC_lay0]
  rw [fill_cons (off := 1) (size := 1) (xs := [.int .i64 s]) rfl rfl rfl (by simp [frC_length hz]), frC_lay1]
  rw [fill_cons (off := 2) (size := 32) (xs := ints .u8 tag) rfl rfl (by rw [ints_length, htag]) (by simp [frC_length hz]), frC_lay2 hz htag]
  rw [fill_cons (off := 34) (size := 1) (xs := [v]) rfl (by rw [hv]) rfl (by simp [frC_length htag]), frC_lay34 htag]
  rfl
/-- a struct loaded whole, behind a guard. -/
theorem wpList_load_row_if {P : Program} {ops : Array Oper} {rest : List Oper} {o : Oper} {a : Act} {w : World} {Q : Exit → Act → World → Prop} (hw : Region.wanted o (yielded ops a.tmps) = true) (ty : TypeId) (x : Operand) (ho : o.op = .load ty x)
    (g : Nat) (hx : a.eval x = .pointer (some ⟨g, 0, none⟩)) (t : TypeId) (cs : Array Value) (fr : Nat × Nat) (d : TypeDesc) (hg : w.heap[g]? = some (.cells cs t fr))
    (hu : P.underlying ty = some d) (hd : (match d with | .struct _ | .array _ _ => true | _ => false) = true) (hi : (P.info? ty).map (·.size) = some cs.size)
    (h : wpList P ops Q rest (a.put o.dst (.agg cs)) w) : wpList P ops Q (o :: rest) a w := by
  refine wpList_step fun K hK => ?_
  rw [if_pos hw]
  exact wp_load_row ty x ho g hx t cs fr d hg hu hd hi (hK _ _ h)
theorem results_cell_row_tmp {P : Program} {fn : Func} {p u : Tmp} {ty : TypeId} (h : fn.results = #[.cell p ty, .tmp u]) (tmps : Array Value) (w : World) (g : Nat) (t : TypeId) (cs : Array Value) (fr : Nat × Nat) (d : TypeDesc)
    (hp : tmps.getD p undef = .pointer (some ⟨g, 0, none⟩)) (hg : w.heap[g]? = some (.cells cs t fr))
    (hu : P.underlying ty = some d) (hd : (match d with | .struct _ | .array _ _ => true | _ => false) = true) (hi : (P.info? ty).map (·.size) = some cs.size) (v : Value) (hv : tmps.getD u undef = v) :
    (results fn tmps).run P w = .ok (.tuple #[.agg cs, v]) w := by
  rw [results_cell_tmp h, hp, hv]
  simp [asAddr, run_loadVar_row w g t ty cs fr d hg hu hd hi, Result.andThen]

/-- what a slice of bytes that is read costs. -/
theorem slice_cells (v : Value) (h : ∃ a n c, v = .slice a n c) : v.cells = #[v] ∧ v.oneCell' = true := by
  obtain ⟨a, n, c, rfl⟩ := h
  exact ⟨rfl, rfl⟩

set_option maxRecDepth 100000 in
set_option maxHeartbeats 2000000 in
theorem sign_good (kv bv : Value) (key body : List Nat) (t s : Int) (w : World) (p p' : Nat → Prop) (hk : ∀ x ∈ key, x < 256) (hb : ∀ x ∈ body, x < 256) (hkl : key.length ≤ 1099511627776) (hf : Wr.form t s body.length = true) (hT : TurnsAt w) (hkv : Cells w p kv (ints .u8 key)) (hbv : Cells w p' bv (ints .u8 body)) :
    Calls Tryd.prog 27 #[kv, .int .i64 t, .int .i64 s, bv] w fun e w' => ∃ b', e = .returned (.tuple #[.agg (frC t s (Sha.tag key (Wr.signed t s body)) b').toArray, .nilIface]) ∧ Fresh w' w.heap.size b' (ints .u8 body) ∧ Keep (· < w.heap.size) w w' ∧ w.heap.size ≤ w'.heap.size := by
  obtain ⟨f1, f2, f3, f4, f5⟩ := (Wr.form_iff _ _ _).1 hf
  have HK := hid (hkv.lt.mono (q := fun b => b < w.heap.size) (fun _ h => h.1))
  have HB := hid (hbv.lt.mono (q := fun b => b < w.heap.size) (fun _ h => h.1))
  have HT := hid hT
  clear hkv hbv hT hf
  go_enter Tryd.func27, Tryd.ntmps27
  go_wp2_with fail
  refine calls_world (fun w0 => Keep (· < w.heap.size) w w0 ∧ (∃ Z : Array Value, Z.size = 35 ∧ w0.heap[w.heap.size]? = some (.cells Z 49 (0, 0))) ∧ w.heap.size < w0.heap.size) ⟨(Keep.refl _ _).alloc _ (fun _ h => h), ⟨_, by kernel_rfl, heap_alloc_new w _⟩, by simp⟩ ?_
  rintro w0 ⟨k0, ⟨Z, hZ, R0⟩, z0⟩
  refine (clone_walk bv body w0 _ (by omega) (HB.out.keep k0 (fun _ h => h))).mono ?_
  rintro e w1 ⟨b', rfl, fb, k1, z1⟩
  have k01 : Keep (· < w.heap.size) w w1 := k0.trans (k1.mono (fun b h => Nat.lt_trans h z0))
  have H1 := hid (And.intro k01 (And.intro ((k1.block _ z0).trans R0) fb))
  have z01 : w.heap.size < w1.heap.size := Nat.lt_of_lt_of_le z0 z1
  have z0' := Nat.le_of_lt z0
  clear k0 R0 k1 k01 fb z1
  obtain ⟨ba, bn, bc, rfl⟩ := cells_form H1.out.2.2.cells
  have HN := hid (show ∀ k, (Value.slice ba bn bc).ownBlock = some k → w.heap.size < k ∧ k < w1.heap.size from fun k hk => ⟨Nat.lt_of_lt_of_le z0 (H1.out.2.2.own k hk), H1.out.2.2.row.lt hk⟩)
  have hl35 : 35 = (frC t s zeros32 (.slice ba bn bc)).toArray.size := by rw [List.size_toArray, frC_length zeros32_length]
  have hi := frC_size zeros32_length t s (.slice ba bn bc)
  have h1 := frC_one t s zeros32 (.slice ba bn bc) rfl
  have bd := build_frame t s (.slice ba bn bc) rfl
  go_upto_region 2 with (first | ((with_reducible refine wpList_bld rfl 49 [(0, .tmp 12), (1, .tmp 13), (3, .tmp 15)] rfl (.agg (frC t s zeros32 (.slice ba bn bc)).toArray) ?hr ?_); case hr => exact bd _) | refine wpList_store_row rfl 49 (.tmp 10) (.tmp 16) rfl w1.heap.size (frC t s zeros32 (.slice ba bn bc)).toArray rfl rfl 49 _ (heap_alloc_new w1 _) hi hl35 h1 ?_)
  refine wp_world (fun w2 => w2.heap[w1.heap.size]? = some (.cells (frC t s zeros32 (.slice ba bn bc)).toArray 49 (0, 0)) ∧ Keep (· < w1.heap.size) w1 w2 ∧ w1.heap.size < w2.heap.size) ⟨heap_setRow (heap_alloc_new w1 _) _, ((Keep.refl _ _).alloc _ (fun _ h => h)).setRow _ (by simp), by simp⟩ ?_
  rintro w2 ⟨F2, k2, z2⟩
  obtain ⟨F, hF⟩ : ∃ F, w1.heap.size = F := ⟨_, rfl⟩
  rw [hF] at F2 z2 HN ⊢
  have zF : w.heap.size < F := by rw [← hF]; exact z01
  have H2 := hid (And.intro (H1.out.1.trans (k2.mono (fun b h => Nat.lt_trans h z01))) (And.intro ((k2.block _ z01).trans H1.out.2.1) (And.intro (H1.out.2.2.keep k2 (fun b _ h => h)) F2)))
  clear F2 k2 hF bd hl35 h1 z01 H1
  go_wp2_with (refine wpList_load_row rfl 49 (.tmp 10) rfl F rfl 49 _ (0, 0) _ H2.out.2.2.2 Tryd.underlying49 rfl hi ?_)
  have hbn : bn = body.length := by
    obtain ⟨_, _, _, e, h1, _⟩ := H2.out.2.2.1.row.cells
    injection e with _ e2 _
    rw [e2, h1, ints_length]
  refine (check_good t s zeros32 ba bn bc w2 zeros32_length f1 f2 f3 f4 (by rw [hbn]; exact f5)).mono ?_
  rintro e w3 ⟨rfl, k3⟩
  have H3 := hid (And.intro (H2.out.1.trans (k3.mono (fun b h => by omega))) (And.intro ((k3.block _ (by omega)).trans H2.out.2.1) (And.intro (H2.out.2.2.1.keep k3 (fun b _ h => h)) ((k3.block _ z2).trans H2.out.2.2.2))))
  have z3 : F < w3.heap.size := Nat.lt_of_lt_of_le z2 k3.size
  clear k3 H2 z2 hbn
  go_wp2_with (refine wpList_load_row rfl 49 (.tmp 10) rfl F rfl 49 _ (0, 0) _ H3.out.2.2.2 Tryd.underlying49 rfl hi ?_)
  refine (signed_walk t s zeros32 (.slice ba bn bc) body w3 _ zeros32_length (by omega) H3.out.2.2.1.cells).mono ?_
  rintro e w4 ⟨v4, rfl, fs4, k4, z4⟩
  have H4 := hid (And.intro (H3.out.1.trans (k4.mono (fun b h => by omega))) (And.intro ((k4.block _ (by omega)).trans H3.out.2.1) (And.intro (H3.out.2.2.1.keep k4 (fun b _ h => h)) (And.intro ((k4.block _ z3).trans H3.out.2.2.2) fs4.cells))))
  have z4' : F < w4.heap.size := Nat.lt_of_lt_of_le z3 z4
  clear k4 fs4 H3
  go_wp2_with fail
  have hsl : (Wr.signed t s body).length < 288230376151711744 := by rw [Wr.signed_length]; omega
  refine (tag_walk kv v4 key (Wr.signed t s body) w4 _ _ hk (Wr.signed_lt t s body hb) (by omega) hsl (HT.out.keep H4.out.1 HT.out.lt) (HK.out.keep H4.out.1 (fun _ h => h)) H4.out.2.2.2.2).mono ?_
  rintro e w5 ⟨rfl, k5⟩
  obtain ⟨D, hD⟩ : ∃ D, Sha.tag key (Wr.signed t s body) = D := ⟨_, rfl⟩
  have hDl : D.length = 32 := by rw [← hD]; exact tag_length hk
  rw [hD]
  have H5 := hid (And.intro (H4.out.1.trans (k5.mono (fun b h => by omega))) (And.intro ((k5.block _ (by omega)).trans H4.out.2.1) (And.intro (H4.out.2.2.1.keep k5 (fun b _ h => h)) ((k5.block _ z4').trans H4.out.2.2.2.1))))
  have z5 : F < w5.heap.size := Nat.lt_of_lt_of_le z4' k5.size
  have hi32 := info32 D hDl
  have hfit : 2 + (ints .u8 D).toArray.size ≤ (frC t s zeros32 (.slice ba bn bc)).length := by rw [frC_length zeros32_length, List.size_toArray, ints_length, hDl]; decide
  have HD := hid hD
  clear k5 H4 hsl hD
  go_upto_region 6 with (refine wpList_store_mid rfl 47 (.tmp 27) (.tmp 26) rfl F 2 (ints .u8 D).toArray rfl rfl (there_of H5.out.2.2.2 hfit) hi32 (ints_all _ _) ?_)
  have hb6 := heap_setCells (ints .u8 D) 2 w5 _ H5.out.2.2.2 (by simpa using hfit)
  rw [frC_lay2 zeros32_length hDl] at hb6
  have k6 := Keep.setCells (p := fun k => k ≠ F) (b := F) (ints .u8 D) 2 w5 (Keep.refl _ _) (by simp)
  obtain ⟨w6, hw6⟩ : ∃ w6, w5.setCells F 2 (ints .u8 D).toArray.toList = w6 := ⟨_, rfl⟩
  rw [hw6]
  have hw6' : w5.setCells F 2 (ints .u8 D) = w6 := hw6
  rw [hw6'] at hb6 k6
  have r6 : Row w6 5 (.slice ba bn bc) (ints .u8 body) := H5.out.2.2.1.row.keep k6 (fun k hk => Nat.ne_of_lt (HN.out k hk).2)
  obtain ⟨Z, hZ, R0⟩ : ∃ Z : Array Value, Z.size = 35 ∧ w6.heap[w.heap.size]? = some (.cells Z 49 (0, 0)) := ⟨Z, hZ, (k6.block _ (Nat.ne_of_lt zF)).trans H5.out.2.1⟩
  have hold : Z.size = (frC t s D (.slice ba bn bc)).toArray.size := by rw [hZ, List.size_toArray, frC_length hDl]
  have hiD := frC_size hDl t s (.slice ba bn bc)
  have h1D := frC_one t s D (.slice ba bn bc) rfl
  have z6 : w5.heap.size ≤ w6.heap.size := k6.size
  have H6 := hid (And.intro (H5.out.1.trans (k6.mono (fun b (h : b < w.heap.size) => by omega))) (And.intro R0 (And.intro r6 hb6)))
  clear hb6 k6 hw6 hw6' R0 r6 hfit hi32 H5 hZ hi
  go_wp2_with (first | refine wpList_load_row rfl 49 (.tmp 10) rfl F rfl 49 _ (0, 0) _ H6.out.2.2.2 Tryd.underlying49 rfl hiD ?_ | refine wpList_store_row rfl 49 (.tmp 8) (.tmp 28) rfl w.heap.size (frC t s D (.slice ba bn bc)).toArray rfl rfl 49 _ H6.out.2.1 hiD hold h1D ?_)
  refine bodyPost_ret (v := .tuple #[.agg (frC t s D (.slice ba bn bc)).toArray, .nilIface]) (results_cell_row_tmp rfl _ _ w.heap.size 49 _ (0, 0) _ rfl (heap_setRow H6.out.2.1 _) Tryd.underlying49 rfl hiD _ rfl) rfl ?_
  have kz : Keep (· ≠ w.heap.size) w6 (w6.setRow w.heap.size (frC t s D (.slice ba bn bc)).toArray) := (Keep.refl (· ≠ w.heap.size) w6).setRow _ (fun h => h rfl)
  refine ⟨.slice ba bn bc, by rw [HD.out], ⟨H6.out.2.2.1.keep kz (fun k hk => Nat.ne_of_gt (HN.out k hk).1), fun k hk => Nat.le_of_lt (HN.out k hk).1⟩, H6.out.1.setRow _ (Nat.lt_irrefl _), Nat.le_trans (Nat.le_of_lt (Nat.lt_trans zF z5)) (Nat.le_trans z6 kz.size)⟩

set_option maxRecDepth 100000 in
set_option maxHeartbeats 2000000 in
theorem right_good (kv bv : Value) (key tag body : List Nat) (t s : Int) (w : World) (p p' : Nat → Prop) (hk : ∀ x ∈ key, x < 256) (hb : ∀ x ∈ body, x < 256) (htb : ∀ x ∈ tag, x < 256) (htag : tag.length = 32) (hkl : key.length ≤ 1099511627776) (hf : Wr.form t s body.length = true) (hT : TurnsAt w) (hkv : Cells w p kv (ints .u8 key)) (hbv : Cells w p' bv (ints .u8 body)) :
    Calls Tryd.prog 28 #[kv, .agg (frC t s tag bv).toArray] w fun e w' => e = .returned (.bool (decide (Sha.tag key (Wr.signed t s body) = tag))) ∧ Keep (· < w.heap.size) w w' := by
  obtain ⟨f1, f2, f3, f4, f5⟩ := (Wr.form_iff _ _ _).1 hf
  obtain ⟨ba, bn, bc, rfl⟩ := cells_form hbv
  have hbn : bn = body.length := by
    obtain ⟨_, _, _, e, h1, _⟩ := id hbv
    injection e with _ e2 _
    rw [e2, h1, ints_length]
  have f5' : bn ≤ 16343 := by rw [hbn]; exact f5
  have HK := hid (hkv.lt.mono (q := fun b => b < w.heap.size) (fun _ h => h.1))
  have HB := hid (hbv.lt.mono (q := fun b => b < w.heap.size) (fun _ h => h.1))
  have HT := hid hT
  have hi := frC_size htag t s (.slice ba bn bc)
  clear hkv hbv hT hf hbn
  go_enter Tryd.func28, Tryd.ntmps28
  go_upto_region 1 with fail
  refine wp_world (fun w0 => Keep (· < w.heap.size) w w0 ∧ w0.heap[w.heap.size]? = some (.cells (frC t s tag (.slice ba bn bc)).toArray 49 (0, 0)) ∧ w.heap.size < w0.heap.size) ⟨(Keep.refl _ _).alloc _ (fun _ h => h), heap_alloc_new w _, by simp⟩ ?_
  rintro w0 ⟨k0, R0, z0⟩
  have H0 := hid (And.intro k0 R0)
  clear k0 R0
  go_wp2_with (refine wpList_load_row rfl 49 (.tmp 3) rfl w.heap.size rfl 49 _ (0, 0) _ H0.out.2 Tryd.underlying49 rfl hi ?_)
  refine (check_good t s tag ba bn bc w0 htag f1 f2 f3 f4 f5').mono ?_
  rintro e w1 ⟨rfl, k1⟩
  have H1 := hid (And.intro (H0.out.1.trans (k1.mono (fun b h => Nat.lt_trans h z0))) ((k1.block _ z0).trans H0.out.2))
  have z1 := Nat.lt_of_lt_of_le z0 k1.size
  clear k1 H0 z0
  go_wp2_with (refine wpList_load_row rfl 49 (.tmp 3) rfl w.heap.size rfl 49 _ (0, 0) _ H1.out.2 Tryd.underlying49 rfl hi ?_)
  refine (signed_walk t s tag (.slice ba bn bc) body w1 _ htag (by omega) (HB.out.keep H1.out.1 (fun _ h => h))).mono ?_
  rintro e w2 ⟨v2, rfl, fs2, k2, z2⟩
  have H2 := hid (And.intro (H1.out.1.trans (k2.mono (fun b h => Nat.lt_trans h z1))) (And.intro ((k2.block _ z1).trans H1.out.2) fs2.cells))
  have z2' := Nat.lt_of_lt_of_le z1 z2
  clear k2 fs2 H1
  go_wp2_with fail
  have hsl : (Wr.signed t s body).length < 288230376151711744 := by rw [Wr.signed_length]; omega
  refine (tag_walk kv v2 key (Wr.signed t s body) w2 _ _ hk (Wr.signed_lt t s body hb) (by omega) hsl (HT.out.keep H2.out.1 HT.out.lt) (HK.out.keep H2.out.1 (fun _ h => h)) H2.out.2.2).mono ?_
  rintro e w3 ⟨rfl, k3⟩
  obtain ⟨D, hD⟩ : ∃ D, Sha.tag key (Wr.signed t s body) = D := ⟨_, rfl⟩
  have hDl : D.length = 32 := by rw [← hD]; exact tag_length hk
  have hDb : ∀ x ∈ D, x < 256 := by rw [← hD]; exact tag_lt
  rw [hD]
  have H3 := hid (And.intro (H2.out.1.trans (k3.mono (fun b h => Nat.lt_trans h z2'))) (And.intro ((k3.block _ z2').trans H2.out.2.1) hDb))
  have z3 := Nat.lt_of_lt_of_le z2' k3.size
  have hi32 := info32 D hDl
  have hold : 32 = (ints .u8 D).toArray.size := by simp [ints_length, hDl]
  have HD := hid hD
  clear k3 H2 hsl hD hDb
  go_upto_region 4 with (refine wpList_store_row rfl 47 (.tmp 5) (.tmp 12) rfl w3.heap.size (ints .u8 D).toArray rfl rfl 47 _ (heap_alloc_new w3 _) hi32 hold (ints_all _ _) ?_)
  refine wp_world (fun w4 => Keep (· < w3.heap.size) w3 w4 ∧ w4.heap[w3.heap.size]? = some (.cells (ints .u8 D).toArray 47 (0, 0))) ⟨((Keep.refl _ _).alloc _ (fun _ h => h)).setRow _ (by simp), heap_setRow (heap_alloc_new w3 _) _⟩ ?_
  rintro w4 ⟨k4, h4⟩
  have H4 := hid (And.intro (H3.out.1.trans (k4.mono (fun b h => Nat.lt_trans h z3))) (And.intro ((k4.block _ z3).trans H3.out.2.1) (And.intro h4 H3.out.2.2)))
  obtain ⟨d, hd⟩ : ∃ d, w3.heap.size = d := ⟨_, rfl⟩
  rw [hd] at H4 ⊢
  clear k4 h4 hold hi32 hd H3 z3
  refine Txt.wp_region_plan [true, true, true, false, false] (.free 0 (.free 1 (.free 2 (.one 3 (.last 4))))) (fun _ => True) (by kernel_rfl) (by kernel_rfl) trivial ?_
  iterate 3 (refine Txt.plan_free rfl rfl (fun K hK => ?_); go_simp; refine hK _ ?_; clear hK K)
  refine Txt.plan_one rfl rfl (fun K hK => ?_); go_simp
  have cD : Cells w4.drew (fun _ => True) (.slice (some ⟨d, 0, none⟩) 32 32) (ints .u8 D) := by
    have := Cells.of_block (w := w4.drew) (p := fun _ => True) (cur := ints .u8 D) (off := 0) (n := 32) (cap := 32) H4.out.2.2.1 trivial (by rw [ints_length, hDl]; decide) (Nat.le_refl _) (by decide)
    rwa [List.drop_zero, List.take_of_length_le (by rw [ints_length, hDl]; exact Nat.le_refl _)] at this
  have cT : Cells w4.drew (fun _ => True) (.slice (some ⟨w.heap.size, 2, none⟩) 32 32) (ints .u8 tag) := by
    have := Cells.of_block (w := w4.drew) (p := fun _ => True) (cur := frC t s tag (.slice ba bn bc)) (off := 2) (n := 32) (cap := 32) H4.out.2.1 trivial (by rw [frC_length htag]; decide) (Nat.le_refl _) (by decide)
    rwa [frC_tag htag] at this
  refine (equal_walk _ _ D tag w4.drew _ _ H4.out.2.2.2 htb cD cT).mono ?_
  rintro e w5 ⟨rfl, k5⟩
  have H5 := hid ((H4.out.1.drewN 1).trans (k5.mono (fun _ _ => trivial)))
  clear k5 cD cT
  refine hK _ _ ⟨trivial, ?_⟩
  clear hK K
  refine Txt.plan_last rfl rfl (fun K hK => ?_); go_simp
  refine hK _ _ ?_
  clear hK K
  go_wp2_with fail
  go_ret
  exact ⟨by rw [HD.out]; rfl, H5.out⟩

set_option maxRecDepth 100000 in
theorem right_bad (kv : Value) (ba : Option Addr) (bn bc : Nat) (tag : List Nat) (t s : Int) (w : World) (et : TypeId) (ex : Value) (htag : tag.length = 32) (hn : bn ≤ 9223372036854775807) (hf : Wr.form t s bn = false) (he : w.cell? ⟨11, 0, none⟩ = some (.iface et ex)) (hl : 11 < w.heap.size) :
    Calls Tryd.prog 28 #[kv, .agg (frC t s tag (.slice ba bn bc)).toArray] w fun e w' => e = .returned (.bool false) ∧ Keep (· < w.heap.size) w w' := by
  have hi := frC_size htag t s (.slice ba bn bc)
  have HE := hid he
  clear he
  go_enter Tryd.func28, Tryd.ntmps28
  go_upto_region 1 with fail
  refine wp_world (fun w0 => Keep (· < w.heap.size) w w0 ∧ w0.heap[w.heap.size]? = some (.cells (frC t s tag (.slice ba bn bc)).toArray 49 (0, 0)) ∧ w.heap.size < w0.heap.size) ⟨(Keep.refl _ _).alloc _ (fun _ h => h), heap_alloc_new w _, by simp⟩ ?_
  rintro w0 ⟨k0, R0, z0⟩
  have H0 := hid (And.intro k0 R0)
  clear k0 R0
  go_wp2_with (refine wpList_load_row rfl 49 (.tmp 3) rfl w.heap.size rfl 49 _ (0, 0) _ H0.out.2 Tryd.underlying49 rfl hi ?_)
  refine (check_bad t s tag ba bn bc w0 htag (.iface et ex) hf hn ((H0.out.1.cell (x := ⟨_, 0, none⟩) hl).trans HE.out) (Nat.lt_trans hl z0)).mono ?_
  rintro e w1 ⟨rfl, k1⟩
  have H1 := hid (H0.out.1.trans (k1.mono (fun b h => Nat.lt_trans h z0)))
  clear k1 H0 hf hn
  go_wp2_with fail
  go_ret
  exact ⟨rfl, H1.out⟩
end Go.Proofs.YtnpneippahdigaaDoor
