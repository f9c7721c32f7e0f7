/-
  Step by step: 'Tagged' of package digest: a key, kept as two states.
-/
import Derived.Test.YtnpneippahdigaaDoorOf
namespace Go.Proofs.YtnpneippahdigaaDoor
open Go.RowKit Go.Proofs.Mem

theorem pad_length (key : List Nat) (h : ∀ x ∈ key, x < 256) : (Sha.pad key).length = 64 := by
  unfold Sha.pad
  simp only
  split
  · rw [List.length_append, List.length_replicate, of_length h]
  · rw [List.length_append, List.length_replicate]; omega
theorem pad_lt (key : List Nat) (h : ∀ x ∈ key, x < 256) : ∀ x ∈ Sha.pad key, x < 256 := by
  intro x hx
  unfold Sha.pad at hx
  simp only [List.mem_append] at hx
  rcases hx with hx | hx
  · split at hx
    · exact of_lt x hx
    · exact h x hx
  · rw [List.mem_replicate] at hx; omega

theorem pad_lay (key F Z : List Nat) (n : Nat) (hF : (if key.length > 64 then Sha.of key else key) = F) (hZ : List.replicate 64 0 = Z) (hn : F.length = n) :
    (ints .u8 F).take n ++ (ints .u8 Z).drop n = ints .u8 (Sha.pad key) := by
  unfold Sha.pad
  simp only
  rw [hF, hn, List.take_of_length_le (by rw [ints_length]; omega), ints_append, ← hZ]
  congr 1
  show (ints .u8 _).drop n = _
  unfold ints
  rw [← List.map_drop, List.drop_replicate]

/-- a key that is kept. -/
def KeyedAt (w : World) (B kb : Nat) (key : List Nat) : Prop :=
  ∃ bi bo, B ≤ kb ∧ B ≤ bi ∧ B ≤ bo ∧ w.heap[kb]? = some (.cells #[.pointer (some ⟨bi, 0, none⟩), .pointer (some ⟨bo, 0, none⟩)] 178 (0, 0)) ∧ StAt w bi (Sha.inner key) ∧ StAt w bo (Sha.outer key)

/-- a state takes one byte out of a new slice. -/
theorem take_one (b : Nat) (s : Sha.St) (x : Nat) (w : World) (hg : Good s) (hn : s.n < 1152921504606846976) (hx : x < 256) (hT : TurnsAt w) (hb : StAt w b s) :
    Calls Tryd.prog 100 #[.pointer (some ⟨b, 0, none⟩), .slice (some ⟨w.heap.size, 0, none⟩) 1 1] (w.alloc (.cells #[.int .u8 (x : Int)] 5)) fun e w' => e = .returned (.pointer (some ⟨b, 0, none⟩)) ∧ Keep (fun k => k < w.heap.size ∧ k ≠ b) w w' ∧ StAt w' b (s.take [x]) := by
  have k0 : Keep (· < w.heap.size) w (w.alloc (.cells #[.int .u8 (x : Int)] 5)) := (Keep.refl _ _).alloc _ (fun _ h => h)
  have hc : Cells (w.alloc (.cells #[.int .u8 (x : Int)] 5)) (· ≠ b) (.slice (some ⟨w.heap.size, 0, none⟩) 1 1) (ints .u8 [x]) :=
    Cells.of_block (cur := ints .u8 [x]) (off := 0) (heap_alloc_new w _) (by have := hb.lt; omega) (by simp [ints]) (Nat.le_refl _) (by decide)
  refine (take_walk b s _ [x] _ hg (by simp; omega) (by simpa using hx) (hT.keep k0 hT.lt) (hb.keep k0 hb.lt) hc).mono ?_
  rintro e w' ⟨he, k1, h1⟩
  exact ⟨he, (k0.mono (fun _ h => h.1)).trans (k1.mono (fun k h => ⟨by simp; omega, h.2⟩)), h1⟩

set_option maxRecDepth 100000 in
set_option maxHeartbeats 1000000 in
theorem tagged_walk (v : Value) (key : List Nat) (w : World) (p : Nat → Prop) (hx : ∀ x ∈ key, x < 256) (hn : key.length < 1152921504606846976) (hT : TurnsAt w) (hv : Cells w p v (ints .u8 key)) : Calls Tryd.prog 87 #[v] w fun e w' => ∃ kb, e = .returned (.pointer (some ⟨kb, 0, none⟩)) ∧ Keep (· < w.heap.size) w w' ∧ KeyedAt w' w.heap.size kb key := by
  have Hv := hid (hv.lt.mono (fun _ h => h.1))
  have HT := hid hT
  clear hv hT
  obtain ⟨a, len, cap, rfl, hlen, hlc, hcm, _⟩ := Hv.out
  rw [ints_length] at hlen
  subst hlen
  have hcm' : cap ≤ 9223372036854775807 := by simpa [maxLen] using hcm
  clear hcm
  go_enter Tryd.func87, Tryd.ntmps87
  go_upto_if 10 with fail
  go_cut [] (fun wx => wx.heap[w.heap.size]? = some (.cells (ints .u8 (Sha.pad key)).toArray 174 (0, 0)) ∧ Keep (· < w.heap.size) w wx)
  case first =>
    refine wp_world (fun w0 => w0.heap.size = w.heap.size + 1 ∧ Keep (· < w.heap.size) w w0 ∧ w0.heap[w.heap.size]? = some (.cells (ints .u8 (List.replicate 64 0)).toArray 174 (0, 0))) ⟨by simp, (Keep.refl _ _).alloc _ (fun _ h => h), heap_alloc_new w _⟩ ?_
    rintro w0 ⟨z0, k0, R0⟩
    obtain ⟨Z, hZ⟩ : ∃ Z, List.replicate 64 0 = Z := ⟨_, rfl⟩
    rw [hZ] at R0
    have hZl : Z.length = 64 := by rw [← hZ]; simp
    have HZ := hid hZ
    clear hZ
    have H0 := hid (And.intro k0 R0)
    by_cases hl : 64 < key.length
    · go_wp2_with fail
      refine (of_walk _ key w0 _ hx (by omega) (HT.out.keep k0 HT.out.lt) (Hv.out.keep k0 (fun _ h => h))).mono ?_
      rintro e w1 ⟨rfl, k1⟩
      have k01 : Keep (· < w.heap.size) w w1 := k0.trans (k1.mono (fun k h => by omega))
      have R1 : w1.heap[w.heap.size]? = some (.cells (ints .u8 Z).toArray 174 (0, 0)) := (k1.block _ (by omega)).trans R0
      obtain ⟨F, hF⟩ : ∃ F, Sha.of key = F := ⟨_, rfl⟩
      have hFl : F.length = 32 := by rw [← hF]; exact of_length hx
      have hi32 := info32 F hFl
      have hold : (ints .u8 (List.replicate 32 0)).toArray.size = (ints .u8 F).toArray.size := by simp [ints_length, hFl]
      have H1 := hid (And.intro k01 (And.intro R1 hF))
      rw [hF]
      clear R1 k01 k1 R0 H0 k0 hF
      have hz1 : w.heap.size < w1.heap.size := by have := (Array.getElem?_eq_some_iff.1 H1.out.2.1).1; exact this
      go_upto_region 4 with (refine wpList_store_row rfl 47 (.tmp 4) (.tmp 12) rfl w1.heap.size (ints .u8 F).toArray rfl rfl 47 _ (heap_alloc_new w1 _) hi32 hold (ints_all _ _) ?_)
      refine wp_world (fun w2 => Keep (· < w1.heap.size) w1 w2 ∧ w2.heap[w1.heap.size]? = some (.cells (ints .u8 F).toArray 47 (0, 0))) ⟨((Keep.refl _ _).alloc _ (fun _ h => h)).setRow _ (by simp), heap_setRow (heap_alloc_new w1 _) _⟩ ?_
      rintro w2 ⟨k2, h2⟩
      have R2 := (k2.block _ hz1).trans H1.out.2.1
      have cp := fun n => copy_into (P := Tryd.prog) 32 5 Tryd.underlying32 (by kernel_rfl) (w2.drewN n) 3 (p := fun _ => True) (b := w.heap.size) (o := 0) (dl := 64) (dc := 64) (cur := ints .u8 Z) R2 (Cells.of_block (cur := ints .u8 F) (off := 0) (n := 32) (cap := 32) (w := w2.drewN n) h2 trivial (by rw [ints_length, hFl]; decide) (Nat.le_refl _) (by decide)) 32 (by simp [ints_length, hFl]) (by simp [ints_length, hZl]) (fun v hv => ints_one .u8 F v (List.mem_of_mem_drop (List.mem_of_mem_take hv)))
      have H2 := hid (And.intro k2 R2)
      clear k2 R2 h2 hold hi32
      refine Go.Proofs.Tail.wp_region_quiet_tail 2 (by kernel_rfl) (by kernel_rfl) ?_
      simp only [List.take_succ_cons, List.take_zero, List.drop_succ_cons, List.drop_zero]
      repeat (quiet_step (fail))
      refine wpQuiet_nil ?_
      intro w3 hw3
      obtain ⟨m, rfl⟩ := hw3
      go_wp2_with fail
      go_meet
      case rel =>
        refine ⟨?_, (H1.out.1.trans ((H2.out.1.mono (fun k h => by omega)).drewN m)).setRow _ (by simp)⟩
        have := heap_setRow (w := w2.drewN m) H2.out.2 ((ints .u8 F).take 32 ++ (ints .u8 Z).drop 32).toArray
        rw [pad_lay key F Z 32 (by rw [if_pos hl, H1.out.2.2]) HZ.out hFl] at this
        rw [← this, ← pad_lay key F Z 32 (by rw [if_pos hl, H1.out.2.2]) HZ.out hFl]
        simp [List.take_take]
    · have cp := copy_into (P := Tryd.prog) 32 5 Tryd.underlying32 (by kernel_rfl) w0 3 (b := w.heap.size) (o := 0) (dl := 64) (dc := 64) R0 (Hv.out.keep k0 (fun _ h => h)) key.length (by rw [ints_length]; show _ = min _ _; omega) (by simp [ints_length, hZl]) (ints_one _ _)
      have R0' := hid R0
      clear R0 k0
      go_wp2_with fail
      go_meet
      case rel =>
        refine ⟨?_, H0.out.1.setRow _ (by simp)⟩
        have := heap_setRow R0'.out ((ints .u8 key).take key.length ++ (ints .u8 Z).drop key.length).toArray
        rw [← pad_lay key key Z key.length (by rw [if_neg hl]) HZ.out rfl]
        exact this
  case rest =>
    obtain ⟨hp, hk⟩ := hcut
    have HP := hid (And.intro hp hk)
    clear hp hk
    go_wp2_with fail
    refine (new_walk wc).mono ?_
    rintro e w1 ⟨rfl, k1, z1, h1⟩
    have H1 := hid (And.intro k1 (And.intro z1 h1))
    obtain ⟨bi, hbi⟩ : ∃ bi, wc.heap.size = bi := ⟨_, rfl⟩
    rw [hbi] at H1 ⊢
    clear k1 z1 h1
    go_wp2_with fail
    refine (new_walk w1).mono ?_
    rintro e w2 ⟨rfl, k2, z2, h2⟩
    have hbo := H1.out.2.1
    have hbs : w.heap.size ≤ bi := by rw [← hbi]; exact HP.out.2.size
    rw [hbo] at z2 h2 ⊢
    simp only [hbo] at k2
    have H2 := hid (And.intro (HP.out.2.trans ((H1.out.1.mono (fun k h => by omega)).trans (k2.mono (fun k h => by omega)))) (And.intro ((k2.block _ (by omega)).trans ((H1.out.1.block w.heap.size (by have := (Array.getElem?_eq_some_iff.1 HP.out.1).1; omega)).trans HP.out.1)) (And.intro (h2) (And.intro ((k2.block bi (by omega)).trans H1.out.2.2) z2))))
    obtain ⟨bo, hbo'⟩ : ∃ bo, bi + 1 = bo := ⟨_, rfl⟩
    rw [hbo'] at H2 ⊢
    have HB := hid (And.intro hbo' hbs)
    clear k2 z2 h2 H1 hbo hbs hbi hbo' HP w1
    go_upto_region 7 with fail
    refine wp_world (fun w3 => Keep (· < w2.heap.size) w2 w3 ∧ w3.heap.size = w2.heap.size + 1 ∧ w3.heap[w2.heap.size]? = some (.cells #[.pointer (some ⟨bi, 0, none⟩), .pointer (some ⟨bo, 0, none⟩)] 178 (0, 0))) ⟨(Keep.refl _ _).alloc _ (fun _ h => h), by simp, heap_alloc_new w2 _⟩ ?_
    rintro w3 ⟨k3, z3, hkb⟩
    obtain ⟨k02, R2, hso, hsi, z2⟩ := H2.out
    obtain ⟨hbo, hbs⟩ := HB.out
    obtain ⟨kb, hkb'⟩ : ∃ kb, w2.heap.size = kb := ⟨_, rfl⟩
    rw [hkb'] at hkb z3 ⊢
    have hwl : w.heap.size < bi := by
      have h1 := (Array.getElem?_eq_some_iff.1 R2).1
      rcases Nat.lt_or_ge w.heap.size bi with h | h
      · exact h
      · exfalso
        have e : bi = w.heap.size := by omega
        rw [← e] at R2
        have h5 := congrArg (fun o => match o with | some (Obj.cells c _ _) => c.size | _ => 0) (hsi.symm.trans R2)
        simp [stC, stCells, ints, Sha.St.new, Sha.start, pad_length key hx] at h5
    obtain ⟨p, hp⟩ : ∃ p, Sha.pad key = p := ⟨_, rfl⟩
    have hpl : p.length = 64 := by rw [← hp]; exact pad_length key hx
    have hpb : ∀ x ∈ p, x < 256 := by rw [← hp]; exact pad_lt key hx
    have hT3 : TurnsAt w3 := (HT.out.keep k02 HT.out.lt).keep k3 (HT.out.keep k02 HT.out.lt).lt
    have k03 : Keep (· < w.heap.size) w w3 := k02.trans (k3.mono (fun k h => by have := k02.size; omega))
    have R3 : w3.heap[w.heap.size]? = some (.cells (ints .u8 p).toArray 174 (0, 0)) := by rw [← hp]; exact (k3.block _ (by omega)).trans R2
    have si : StAt w3 bi Sha.St.new := (k3.block _ (by omega)).trans hsi
    have so : StAt w3 bo Sha.St.new := (k3.block _ (by omega)).trans hso
    have h64 : (Tryd.prog.info? 174).map (·.size) = some (ints .u8 p).toArray.size := by rw [List.size_toArray, ints_length, hpl]; kernel_rfl
    have hlt3 : bi < bo ∧ bo < kb ∧ kb < w3.heap.size := by omega
    have HPQ := hid hp
    have HT3 := hid hT3
    have H3 := hid (And.intro k03 (And.intro R3 (And.intro hkb (And.intro si so))))
    have HBI := hid hbs
    clear k3 z3 hkb k02 R2 hso hsi z2 hbo hbs hkb' hp k03 R3 si so H2 HB hT3 w2
    have ck : ∀ wz : World, wz.heap[kb]? = some (.cells #[.pointer (some ⟨bi, 0, none⟩), .pointer (some ⟨bo, 0, none⟩)] 178 (0, 0)) → wz.cell? ⟨kb, 0, none⟩ = some (.pointer (some ⟨bi, 0, none⟩)) ∧ wz.cell? ⟨kb, 1, none⟩ = some (.pointer (some ⟨bo, 0, none⟩)) := by
      intro wz h; simp [World.cell?, h]
    have CK := hid ck
    clear ck
    go_wp2_with (refine wpList_load_row rfl 174 (.tmp 3) rfl w.heap.size rfl 174 _ (0, 0) _ H3.out.2.1 Tryd.underlying174 rfl h64 ?_)
    go_loopg [24] 64 (fun k s24 wr => ∃ i : Nat, i + k = 64 ∧ s24 = .int .i64 (i : Int) ∧ StAt wr bi (Sha.St.new.take ((p.map (· ^^^ 54)).take i)) ∧ StAt wr bo (Sha.St.new.take ((p.map (· ^^^ 92)).take i)) ∧ Keep (fun k => k < w3.heap.size ∧ k ≠ bi ∧ k ≠ bo) w3 wr)
    case atStart => exact ⟨0, rfl, rfl, H3.out.2.2.2.1, H3.out.2.2.2.2, Keep.refl _ _⟩
    case round =>
      obtain ⟨i, hi, rfl, hsi, hso, hkr⟩ := hrel
      have H4 := hid (And.intro hsi (And.intro hso hkr))
      have hkb3 : wr.heap[kb]? = some (.cells #[.pointer (some ⟨bi, 0, none⟩), .pointer (some ⟨bo, 0, none⟩)] 178 (0, 0)) := (hkr.block _ (by omega)).trans H3.out.2.2.1
      obtain ⟨ck0, ck1⟩ := CK.out wr hkb3
      have HT4 := hid (HT3.out.keep hkr ⟨HT3.out.lt, by have := turns_ne HT3.out H3.out.2.2.2.1 new_good.1 new_good.2.1; exact this, by have := turns_ne HT3.out H3.out.2.2.2.2 new_good.1 new_good.2.1; exact this⟩)
      clear hsi hso hkr hkb3
      by_cases hi64 : i < 64
      · obtain ⟨x, hx'⟩ : ∃ x, p.getD i 0 = x := ⟨_, rfl⟩
        have hxb : x < 256 := by
          rw [← hx', List.getD_eq_getElem?_getD, List.getElem?_eq_getElem (by omega)]
          exact hpb _ (List.getElem_mem _)
        have ix := fun w0 => index_agg (P := Tryd.prog) 174 5 64 .u8 Tryd.underlying174 Tryd.underlying5 (by kernel_rfl) w0 (ints .u8 p) i (.int .u8 (x : Int)) hi64 (by rw [← hx']; exact ints_get _ _ _ (by omega))
        have HX := hid hx'
        clear hx'
        have v1 : bits .xor .u8 (x : Int) 54 = ((x ^^^ 54 : Nat) : Int) := u8_xor_nat x 54 hxb (by decide)
        have v2 : bits .xor .u8 (x : Int) 92 = ((x ^^^ 92 : Nat) : Int) := u8_xor_nat x 92 hxb (by decide)
        have y1 : x ^^^ 54 < 256 := Nat.xor_lt_two_pow (n := 8) hxb (by decide)
        have y2 : x ^^^ 92 < 256 := Nat.xor_lt_two_pow (n := 8) hxb (by decide)
        obtain ⟨a1, e1⟩ : ∃ a, x ^^^ 54 = a := ⟨_, rfl⟩
        obtain ⟨a2, e2⟩ : ∃ a, x ^^^ 92 = a := ⟨_, rfl⟩
        rw [e1] at v1 y1
        rw [e2] at v2 y2
        have HE := hid (And.intro e1 e2)
        clear e1 e2
        have gi : Good (Sha.St.new.take ((p.map (· ^^^ 54)).take i)) := take_good new_good (fun y hy => by
          obtain ⟨z, hz, rfl⟩ := List.mem_map.1 (List.mem_of_mem_take hy)
          exact Nat.xor_lt_two_pow (n := 8) (hpb z hz) (by decide))
        have go : Good (Sha.St.new.take ((p.map (· ^^^ 92)).take i)) := take_good new_good (fun y hy => by
          obtain ⟨z, hz, rfl⟩ := List.mem_map.1 (List.mem_of_mem_take hy)
          exact Nat.xor_lt_two_pow (n := 8) (hpb z hz) (by decide))
        have ni : ∀ l : List Nat, (Sha.St.new.take (l.take i)).n < 1152921504606846976 := fun l => by
          rw [Sha.take_n, List.length_take]; simp [Sha.St.new]; omega
        have HG := hid (And.intro gi (And.intro go ni))
        clear gi go ni
        go_wp2_with fail
        refine (take_one bi _ a1 wr HG.out.1 (HG.out.2.2 _) y1 HT4.out H4.out.1).mono ?_
        rintro e w4 ⟨rfl, k4, h4⟩
        have kbn : kb ≠ bi ∧ kb ≠ bo ∧ bo ≠ bi := by omega
        have hrz : w3.heap.size ≤ wr.heap.size := H4.out.2.2.size
        have hkb4 : w4.heap[kb]? = some (.cells #[.pointer (some ⟨bi, 0, none⟩), .pointer (some ⟨bo, 0, none⟩)] 178 (0, 0)) := (k4.block _ ⟨by omega, kbn.1⟩).trans ((H4.out.2.2.block _ (by omega)).trans H3.out.2.2.1)
        obtain ⟨dk0, dk1⟩ := CK.out w4 hkb4
        have H5 := hid (And.intro h4 (And.intro k4 (H4.out.2.1.keep k4 ⟨H4.out.2.1.lt, kbn.2.2⟩)))
        have HT5 := hid (HT4.out.keep k4 ⟨HT4.out.lt, by have := turns_ne HT3.out H3.out.2.2.2.1 new_good.1 new_good.2.1; exact this⟩)
        clear h4 k4 hkb4 ck0 ck1
        go_wp2_with fail
        refine (take_one bo _ a2 w4 HG.out.2.1 (HG.out.2.2 _) y2 HT5.out H5.out.2.2).mono ?_
        rintro e w5 ⟨rfl, k5, h5⟩
        have H6 := hid (And.intro h5 (And.intro k5 (H5.out.1.keep k5 ⟨H5.out.1.lt, by omega⟩)))
        clear k5 h5 dk0 dk1
        go_wp2_with fail
        go_roundg (gk - 1)
        case measure => omega
        case rel =>
          have el : ∀ c : Nat, (p.map (· ^^^ c)).getD i 0 = x ^^^ c := by
            intro c
            rw [← HX.out, List.getD_eq_getElem?_getD, List.getD_eq_getElem?_getD, List.getElem?_map, List.getElem?_eq_getElem (by omega)]
            rfl
          refine ⟨i + 1, by omega, by go_num, ?_, ?_, ?_⟩
          · have := H6.out.2.2
            rwa [← Sha.take_append, ← HE.out.1, ← el 54, take_snoc' _ i (by rw [List.length_map]; omega)] at this
          · have := H6.out.1
            rwa [← Sha.take_append, ← HE.out.2, ← el 92, take_snoc' _ i (by rw [List.length_map]; omega)] at this
          · have hz4 := H5.out.2.1.size
            exact H4.out.2.2.trans ((H5.out.2.1.mono (fun k h => ⟨by omega, h.2.1⟩)).trans (H6.out.2.1.mono (fun k h => ⟨by omega, h.2.2⟩)))
      · obtain rfl : i = 64 := by omega
        go_wp2_with fail
        go_ret
        obtain ⟨h1, h2, h3⟩ := H4.out
        have l1 : ∀ c : Nat, (p.map (· ^^^ c)).take 64 = p.map (· ^^^ c) := fun c => List.take_of_length_le (by rw [List.length_map]; omega)
        rw [l1] at h1 h2
        have hbs := HBI.out
        refine ⟨kb, rfl, H3.out.1.trans (h3.mono (fun k h => by have := H3.out.1.size; omega)), bi, bo, by omega, by omega, by omega, (h3.block _ (by omega)).trans H3.out.2.2.1, ?_, ?_⟩
        · unfold Sha.inner; rw [HPQ.out]; exact h1
        · unfold Sha.outer; rw [HPQ.out]; exact h2
end Go.Proofs.YtnpneippahdigaaDoor
