/-
  Step by step: 'PutRequest' of package wire. (Printed by tools/preq_gen.py.)
-/
import Derived.Test.YtnpneippahdigaaDoorWireJ
import Derived.Test.YtnpneippahdigaaDoorMem8
import Derived.Laws.IdiomStrings
namespace Go.Proofs.Wr
/-- a request's bytes. -/
def reqBytes (k n f : Int) (text : List Nat) : List Nat := u8 k :: (Sha.be8 (u64 n) ++ (Sha.be8 (u64 f) ++ text))
/-- can a request be written? -/
def reqOk (k : Int) (text : List Nat) : Bool := decide (1 ≤ k) && decide (k ≤ 7) && (decide (k = 1) || decide (text.length = 0)) && decide (17 + text.length ≤ 16343)
theorem reqOk_iff (k : Int) (text : List Nat) : reqOk k text = true ↔ 1 ≤ k ∧ k ≤ 7 ∧ (k = 1 ∨ text.length = 0) ∧ 17 + text.length ≤ 16343 := by
  simp only [reqOk, Bool.and_eq_true, Bool.or_eq_true, decide_eq_true_eq, and_assoc]
theorem reqBytes_length (k n f : Int) (text : List Nat) : (reqBytes k n f text).length = 17 + text.length := by simp [reqBytes, Sha.be8]; omega
end Go.Proofs.Wr
namespace Go.Proofs.YtnpneippahdigaaDoor
open Go.RowKit Go.Proofs.Mem Go.Proofs.Txt

/-- a request's cells. -/
def rqC (k n f : Int) (text : List Nat) : List Value := [.int .i64 k, .int .i64 n, .int .i64 f, .string (bstr text)]
theorem bytes_row (xs : List Nat) (hx : ∀ x ∈ xs, x < 256) (cap : Nat) : ∃ r : List Nat, (bytesRow (bstr xs) cap).toList = ints .u8 xs ++ ints .u8 r := by
  refine ⟨List.replicate (cap - (bstr xs).size) 0, ?_⟩
  unfold bytesRow bstr
  simp only [Array.toList_append, Array.toList_map, Array.toList_replicate, ints, List.map_map, List.map_replicate]
  congr 1
  apply List.map_congr_left
  intro x h
  have := hx x h
  simp only [Function.comp]
  congr 1
  simp; omega
theorem bstr_size (xs : List Nat) : (bstr xs).size = xs.length := by simp [bstr, ByteArray.size]
/-- a string turned into bytes: its cells. -/
theorem text_bytes (w : World) (xs : List Nat) (hx : ∀ x ∈ xs, x < 256) (hl : xs.length ≤ 1099511627776) : ∃ c w', (convert 9 32 (.string (bstr xs))).run Tryd.prog w = .ok (.slice (some ⟨w.heap.size, 0, none⟩) xs.length c) w' ∧ Keep (· < w.heap.size) w w' ∧ Cells w' (fun b => w.heap.size ≤ b) (.slice (some ⟨w.heap.size, 0, none⟩) xs.length c) (ints .u8 xs) := by
  have h := run_bytes_of_string (P := Tryd.prog) w 9 32 5 (bstr xs) Tryd.underlying9 Tryd.underlying32 Tryd.underlying5
  rw [bstr_size] at h
  have hg := grownCap_ge w xs.length 0 5
  have hm := grownCap_le_maxLen w xs.length 0 5 (by unfold maxLen; omega)
  obtain ⟨r, hr⟩ := bytes_row xs hx (grownCap w xs.length 0 5)
  obtain ⟨Z, hZ⟩ : ∃ Z, bytesRow (bstr xs) (grownCap w xs.length 0 5) = Z := ⟨_, rfl⟩
  rw [hZ] at h hr
  refine ⟨_, _, h, ((Keep.refl _ _).drew).alloc _ (fun _ h => h), ?_⟩
  have := Cells.of_block (w := w.drew.alloc (.cells Z 5 (Z.size, Z.size + 1))) (p := fun b => w.heap.size ≤ b) (cur := Z.toList) (off := 0) (n := xs.length) (cap := grownCap w xs.length 0 5) (heap_alloc_new w.drew _) (Nat.le_refl _) (by rw [hr, List.length_append, ints_length]; omega) hg hm
  rw [hr, List.drop_zero, List.take_append_of_le_length (by rw [ints_length]; exact Nat.le_refl _), List.take_of_length_le (by rw [ints_length]; exact Nat.le_refl _)] at this
  exact this
/-- what was read stands, one more block made. -/
theorem cells_on {w w' : World} {B : Nat} {v : Value} {cs : List Value} (h : Cells w (fun b => B ≤ b) v cs) (k : Keep (· < w.heap.size) w w') : Cells w' (fun b => B ≤ b) v cs := (h.lt.keep k (fun _ h => h.1)).mono (fun _ h => h.2)

theorem num_cells {w w' : World} {B q : Nat} (h : w'.heap[w.heap.size]? = some (.cells (ints .u8 (Sha.be8 q)).toArray 5 (0, 0))) (hB : B ≤ w.heap.size) : Cells w' (fun b => B ≤ b) (.slice (some ⟨w.heap.size, 0, none⟩) 8 8) (ints .u8 (Sha.be8 q)) := by
  have := Cells.of_block (w := w') (p := fun b => B ≤ b) (cur := ints .u8 (Sha.be8 q)) (off := 0) (n := 8) (cap := 8) h hB (by rw [ints_length, be8_len]; decide) (Nat.le_refl _) (by decide)
  rwa [List.drop_zero, List.take_of_length_le (by rw [ints_length, be8_len]; decide)] at this

set_option maxRecDepth 100000 in
set_option maxHeartbeats 8000000 in
theorem preq_walk (k n f : Int) (text : List Nat) (w : World) (et : TypeId) (ex : Value) (hx : ∀ x ∈ text, x < 256) (hl : text.length ≤ 1099511627776) (he : w.cell? ⟨11, 0, none⟩ = some (.iface et ex)) (hg : 11 < w.heap.size) :
    Calls Tryd.prog 29 #[.agg (rqC k n f text).toArray] w fun e w' => Keep (· < w.heap.size) w w' ∧ ((Wr.reqOk k text = true ∧ ∃ v, e = .returned (.tuple #[v, .nilIface]) ∧ Cells w' (fun b => w.heap.size < b) v (ints .u8 (Wr.reqBytes k n f text))) ∨ (Wr.reqOk k text = false ∧ e = .returned (.tuple #[.slice none 0 0, .iface et ex]))) := by
  have HX := hid hx
  have HE := hid he
  clear hx he
  have e8 := u8_wrap k
  obtain ⟨x, hxx⟩ : ∃ x, Wr.u8 k = x := ⟨_, rfl⟩
  rw [hxx] at e8
  have HXX := hid hxx
  clear hxx
  go_enter Tryd.func29, Tryd.ntmps29
  go_upto_region 1 with fail
  refine wp_world (fun w1 => Keep (· < w.heap.size) w w1 ∧ w1.heap[w.heap.size]? = some (.cells (rqC k n f text).toArray 55 (0, 0)) ∧ w.heap.size < w1.heap.size) ⟨(Keep.refl _ _).alloc _ (fun _ h => h), heap_alloc_new w _, by simp⟩ ?_
  rintro w1 ⟨k1, R1, z1⟩
  have SS := hid (show ∀ wx : World, Keep (· < w1.heap.size) w1 wx → wx.cell? ⟨w.heap.size, 0, none⟩ = some (.int .i64 k) ∧ wx.cell? ⟨w.heap.size, 1, none⟩ = some (.int .i64 n) ∧ wx.cell? ⟨w.heap.size, 2, none⟩ = some (.int .i64 f) ∧ wx.cell? ⟨w.heap.size, 3, none⟩ = some (.string (bstr text)) from fun wx kx =>
    ⟨(kx.cell (x := ⟨_, 0, none⟩) z1).trans (cell_at R1 0), (kx.cell (x := ⟨_, 1, none⟩) z1).trans (cell_at R1 1), (kx.cell (x := ⟨_, 2, none⟩) z1).trans (cell_at R1 2), (kx.cell (x := ⟨_, 3, none⟩) z1).trans (cell_at R1 3)⟩)
  have K1 := hid k1
  clear k1 R1
  go_cut [4] (fun s4 wx => Cells wx (fun b => w.heap.size < b) s4 (ints .u8 (Wr.reqBytes k n f text)) ∧ Keep (· < w1.heap.size) w1 wx)
  case first =>
    have KZ := hid (show Keep (· < w1.heap.size) w1 w1.drew from (Keep.refl _ _).drew)
    refine wp_region_plan [true, true, true, false, true, true, false, true, true, false, true, true, false, false, false, false] (.free 0 (.free 1 (.free 2 (.free 4 (.free 5 (.free 7 (.free 8 (.free 10 (.free 11 (.alt (.one 3 (.alt (.one 6 (.alt (.one 9 (.one 12 (.one 13 (.one 14 (.last 15))))) (.one 12 (.one 9 (.one 13 (.one 14 (.last 15))))))) (.one 12 (.one 6 (.one 9 (.one 13 (.one 14 (.last 15)))))))) (.alt (.one 6 (.alt (.one 3 (.alt (.one 9 (.one 12 (.one 13 (.one 14 (.last 15))))) (.one 12 (.one 9 (.one 13 (.one 14 (.last 15))))))) (.alt (.one 9 (.alt (.one 3 (.one 12 (.one 13 (.one 14 (.last 15))))) (.one 12 (.one 3 (.one 13 (.one 14 (.last 15))))))) (.one 12 (.alt (.one 3 (.one 9 (.one 13 (.one 14 (.last 15))))) (.one 9 (.one 3 (.one 13 (.one 14 (.last 15)))))))))) (.one 12 (.alt (.one 3 (.one 6 (.one 9 (.one 13 (.one 14 (.last 15)))))) (.one 6 (.alt (.one 3 (.one 9 (.one 13 (.one 14 (.last 15))))) (.one 9 (.one 3 (.one 13 (.one 14 (.last 15))))))))))))))))))))
      (fun wx => wx.cell? ⟨w.heap.size, 0, none⟩ = some (.int .i64 k) ∧ wx.cell? ⟨w.heap.size, 1, none⟩ = some (.int .i64 n) ∧ wx.cell? ⟨w.heap.size, 2, none⟩ = some (.int .i64 f) ∧ wx.cell? ⟨w.heap.size, 3, none⟩ = some (.string (bstr text))) (by kernel_rfl) (by kernel_rfl) (SS.out _ KZ.out) ?_
    refine plan_free rfl rfl (fun K hK => ?_); go_simp; refine hK _ ?_; clear hK K
    refine plan_held (.int .i64 k) rfl rfl (fun w0 h0 => by obtain ⟨h0, h1, h2, h3⟩ := h0; go_simp) (fun K hK => ?_); refine hK _ ?_; clear hK K
    refine plan_free rfl rfl (fun K hK => ?_); go_simp; refine hK _ ?_; clear hK K
    refine plan_free rfl rfl (fun K hK => ?_); go_simp; refine hK _ ?_; clear hK K
    refine plan_held (.int .i64 n) rfl rfl (fun w0 h0 => by obtain ⟨h0, h1, h2, h3⟩ := h0; go_simp) (fun K hK => ?_); refine hK _ ?_; clear hK K
    refine plan_free rfl rfl (fun K hK => ?_); go_simp; refine hK _ ?_; clear hK K
    refine plan_held (.int .i64 f) rfl rfl (fun w0 h0 => by obtain ⟨h0, h1, h2, h3⟩ := h0; go_simp) (fun K hK => ?_); refine hK _ ?_; clear hK K
    refine plan_free rfl rfl (fun K hK => ?_); go_simp; refine hK _ ?_; clear hK K
    refine plan_held (.string (bstr text)) rfl rfl (fun w0 h0 => by obtain ⟨h0, h1, h2, h3⟩ := h0; go_simp) (fun K hK => ?_); refine hK _ ?_; clear hK K
    try simp only [Act.put]
    have kk := KZ.out
    refine ⟨?_, ?_⟩
    · skip
      refine plan_one rfl rfl (fun K hK => ?_); go_simp
      refine hK _ _ ⟨SS.out _ (kk.alloc _ (fun _ h => Nat.lt_of_lt_of_le h kk.size)), ?_⟩
      clear hK K
      try simp only [Act.put]
      refine plan_world (fun wx => Keep (· < w1.drew.heap.size) w1.drew wx ∧ Cells wx (fun b => w1.heap.size ≤ b) (.slice (some ⟨w1.drew.heap.size, 0, none⟩) 1 1) (ints .u8 [x])) ⟨(Keep.refl _ _).alloc _ (fun _ h => h), cells_made w1.drew 5 (fun b => w1.heap.size ≤ b) (ints .u8 [x]) kk.size (by simp [ints])⟩ ?_
      rintro wa1 ⟨kn, d3⟩
      have kk := (kk.trans (kn.mono (fun b h => Nat.lt_of_lt_of_le h kk.size)))
      clear kn
      refine ⟨?_, ?_⟩
      · skip
        refine plan_one rfl rfl (fun K hK => ?_); go_simp
        refine (num_walk n wa1).mono ?_
        rintro e wa2 ⟨rfl, hn, kn⟩
        have d6 := num_cells (B := w1.heap.size) hn kk.size
        refine hK _ _ ⟨SS.out _ (kk.trans (kn.mono (fun b h => Nat.lt_of_lt_of_le h kk.size))), ?_⟩
        clear hK K hn
        try simp only [Act.put]
        have d3 := cells_on d3 kn
        have kk := (kk.trans (kn.mono (fun b h => Nat.lt_of_lt_of_le h kk.size)))
        clear kn
        refine ⟨?_, ?_⟩
        · skip
          refine plan_one rfl rfl (fun K hK => ?_); go_simp
          refine (num_walk f wa2).mono ?_
          rintro e wa3 ⟨rfl, hn, kn⟩
          have d9 := num_cells (B := w1.heap.size) hn kk.size
          refine hK _ _ ⟨SS.out _ (kk.trans (kn.mono (fun b h => Nat.lt_of_lt_of_le h kk.size))), ?_⟩
          clear hK K hn
          try simp only [Act.put]
          have d3 := cells_on d3 kn
          have d6 := cells_on d6 kn
          have kk := (kk.trans (kn.mono (fun b h => Nat.lt_of_lt_of_le h kk.size)))
          clear kn
          obtain ⟨cwa4, wa4, hr, kn, d12⟩ := text_bytes wa3 text HX.out hl
          refine plan_one rfl rfl (fun K hK => ?_); go_simp
          refine hK _ _ ⟨SS.out _ (kk.trans (kn.mono (fun b h => Nat.lt_of_lt_of_le h kk.size))), ?_⟩
          clear hK K hr
          try simp only [Act.put]
          have d12 := d12.mono (q := fun b => w1.heap.size ≤ b) (fun b h => Nat.le_trans kk.size h)
          have d3 := cells_on d3 kn
          have d6 := cells_on d6 kn
          have d9 := cells_on d9 kn
          have kk := (kk.trans (kn.mono (fun b h => Nat.lt_of_lt_of_le h kk.size)))
          clear kn
          have kn : Keep (· < wa4.heap.size) wa4 (wa4.alloc (.cells [.slice (some ⟨w1.drew.heap.size, 0, none⟩) 1 1, .slice (some ⟨wa1.heap.size, 0, none⟩) 8 8, .slice (some ⟨wa2.heap.size, 0, none⟩) 8 8, .slice (some ⟨wa3.heap.size, 0, none⟩) text.length cwa4].toArray 32)) := (Keep.refl _ _).alloc _ (fun _ h => h)
          refine plan_one rfl rfl (fun K hK => ?_); go_simp
          refine hK _ _ ⟨SS.out _ (kk.trans (kn.mono (fun b h => Nat.lt_of_lt_of_le h kk.size))), ?_⟩
          clear hK K
          try simp only [Act.put]
          refine plan_world (fun wx => Keep (· < wa4.heap.size) wa4 wx ∧ Cells wx (fun _ => True) (.slice (some ⟨wa4.heap.size, 0, none⟩) 4 4) [.slice (some ⟨w1.drew.heap.size, 0, none⟩) 1 1, .slice (some ⟨wa1.heap.size, 0, none⟩) 8 8, .slice (some ⟨wa2.heap.size, 0, none⟩) 8 8, .slice (some ⟨wa3.heap.size, 0, none⟩) text.length cwa4]) ⟨kn, cells_made wa4 32 (fun _ => True) [.slice (some ⟨w1.drew.heap.size, 0, none⟩) 1 1, .slice (some ⟨wa1.heap.size, 0, none⟩) 8 8, .slice (some ⟨wa2.heap.size, 0, none⟩) 8 8, .slice (some ⟨wa3.heap.size, 0, none⟩) text.length cwa4] trivial (by simp)⟩ ?_
          clear kn
          rintro wx ⟨kn, cx⟩
          have rws : Rws wx (fun b => w1.heap.size ≤ b) [.slice (some ⟨w1.drew.heap.size, 0, none⟩) 1 1, .slice (some ⟨wa1.heap.size, 0, none⟩) 8 8, .slice (some ⟨wa2.heap.size, 0, none⟩) 8 8, .slice (some ⟨wa3.heap.size, 0, none⟩) text.length cwa4] [[x], Sha.be8 (Wr.u64 n), Sha.be8 (Wr.u64 f), text] := Rws.cons (cells_on d3 kn) (Rws.cons (cells_on d6 kn) (Rws.cons (cells_on d9 kn) (Rws.cons (cells_on d12 kn) (Rws.nil _ _))))
          have kk := (kk.trans (kn.mono (fun b h => Nat.lt_of_lt_of_le h kk.size)))
          clear kn d3 d6 d9 d12
          refine plan_one rfl rfl (fun K hK => ?_); go_simp
          refine (concat_walk _ _ _ wx _ _ (by simp [total, be8_len]; omega) cx rws).mono ?_
          rintro e wy ⟨v5, rfl, f5, kn, z5⟩
          refine hK _ _ ⟨SS.out _ (kk.trans (kn.mono (fun b h => Nat.lt_of_lt_of_le h kk.size))), ?_⟩
          clear hK K
          try simp only [Act.put]
          have FF := hid (And.intro f5 (And.intro (kk.trans (kn.mono (fun b h => Nat.lt_of_lt_of_le h kk.size))) kk.size))
          clear f5 kn kk cx rws
          refine plan_last rfl rfl (fun K hK => ?_); go_simp
          refine hK _ _ ?_
          clear hK K
          go_wp2_with fail
          go_meet
          case rel =>
            have e : Wr.reqBytes k n f text = [[x], Sha.be8 (Wr.u64 n), Sha.be8 (Wr.u64 f), text].flatten := by simp [Wr.reqBytes, HXX.out]
            rw [e]
            exact ⟨FF.out.1.cells.mono (fun b h => Nat.lt_of_lt_of_le z1 (Nat.le_trans FF.out.2.2 h)), FF.out.2.1⟩
        · skip
          obtain ⟨cwa5, wa5, hr, kn, d12⟩ := text_bytes wa2 text HX.out hl
          refine plan_one rfl rfl (fun K hK => ?_); go_simp
          refine hK _ _ ⟨SS.out _ (kk.trans (kn.mono (fun b h => Nat.lt_of_lt_of_le h kk.size))), ?_⟩
          clear hK K hr
          try simp only [Act.put]
          have d12 := d12.mono (q := fun b => w1.heap.size ≤ b) (fun b h => Nat.le_trans kk.size h)
          have d3 := cells_on d3 kn
          have d6 := cells_on d6 kn
          have kk := (kk.trans (kn.mono (fun b h => Nat.lt_of_lt_of_le h kk.size)))
          clear kn
          refine plan_one rfl rfl (fun K hK => ?_); go_simp
          refine (num_walk f wa5).mono ?_
          rintro e wa6 ⟨rfl, hn, kn⟩
          have d9 := num_cells (B := w1.heap.size) hn kk.size
          refine hK _ _ ⟨SS.out _ (kk.trans (kn.mono (fun b h => Nat.lt_of_lt_of_le h kk.size))), ?_⟩
          clear hK K hn
          try simp only [Act.put]
          have d3 := cells_on d3 kn
          have d6 := cells_on d6 kn
          have d12 := cells_on d12 kn
          have kk := (kk.trans (kn.mono (fun b h => Nat.lt_of_lt_of_le h kk.size)))
          clear kn
          have kn : Keep (· < wa6.heap.size) wa6 (wa6.alloc (.cells [.slice (some ⟨w1.drew.heap.size, 0, none⟩) 1 1, .slice (some ⟨wa1.heap.size, 0, none⟩) 8 8, .slice (some ⟨wa5.heap.size, 0, none⟩) 8 8, .slice (some ⟨wa2.heap.size, 0, none⟩) text.length cwa5].toArray 32)) := (Keep.refl _ _).alloc _ (fun _ h => h)
          refine plan_one rfl rfl (fun K hK => ?_); go_simp
          refine hK _ _ ⟨SS.out _ (kk.trans (kn.mono (fun b h => Nat.lt_of_lt_of_le h kk.size))), ?_⟩
          clear hK K
          try simp only [Act.put]
          refine plan_world (fun wx => Keep (· < wa6.heap.size) wa6 wx ∧ Cells wx (fun _ => True) (.slice (some ⟨wa6.heap.size, 0, none⟩) 4 4) [.slice (some ⟨w1.drew.heap.size, 0, none⟩) 1 1, .slice (some ⟨wa1.heap.size, 0, none⟩) 8 8, .slice (some ⟨wa5.heap.size, 0, none⟩) 8 8, .slice (some ⟨wa2.heap.size, 0, none⟩) text.length cwa5]) ⟨kn, cells_made wa6 32 (fun _ => True) [.slice (some ⟨w1.drew.heap.size, 0, none⟩) 1 1, .slice (some ⟨wa1.heap.size, 0, none⟩) 8 8, .slice (some ⟨wa5.heap.size, 0, none⟩) 8 8, .slice (some ⟨wa2.heap.size, 0, none⟩) text.length cwa5] trivial (by simp)⟩ ?_
          clear kn
          rintro wx ⟨kn, cx⟩
          have rws : Rws wx (fun b => w1.heap.size ≤ b) [.slice (some ⟨w1.drew.heap.size, 0, none⟩) 1 1, .slice (some ⟨wa1.heap.size, 0, none⟩) 8 8, .slice (some ⟨wa5.heap.size, 0, none⟩) 8 8, .slice (some ⟨wa2.heap.size, 0, none⟩) text.length cwa5] [[x], Sha.be8 (Wr.u64 n), Sha.be8 (Wr.u64 f), text] := Rws.cons (cells_on d3 kn) (Rws.cons (cells_on d6 kn) (Rws.cons (cells_on d9 kn) (Rws.cons (cells_on d12 kn) (Rws.nil _ _))))
          have kk := (kk.trans (kn.mono (fun b h => Nat.lt_of_lt_of_le h kk.size)))
          clear kn d3 d6 d9 d12
          refine plan_one rfl rfl (fun K hK => ?_); go_simp
          refine (concat_walk _ _ _ wx _ _ (by simp [total, be8_len]; omega) cx rws).mono ?_
          rintro e wy ⟨v5, rfl, f5, kn, z5⟩
          refine hK _ _ ⟨SS.out _ (kk.trans (kn.mono (fun b h => Nat.lt_of_lt_of_le h kk.size))), ?_⟩
          clear hK K
          try simp only [Act.put]
          have FF := hid (And.intro f5 (And.intro (kk.trans (kn.mono (fun b h => Nat.lt_of_lt_of_le h kk.size))) kk.size))
          clear f5 kn kk cx rws
          refine plan_last rfl rfl (fun K hK => ?_); go_simp
          refine hK _ _ ?_
          clear hK K
          go_wp2_with fail
          go_meet
          case rel =>
            have e : Wr.reqBytes k n f text = [[x], Sha.be8 (Wr.u64 n), Sha.be8 (Wr.u64 f), text].flatten := by simp [Wr.reqBytes, HXX.out]
            rw [e]
            exact ⟨FF.out.1.cells.mono (fun b h => Nat.lt_of_lt_of_le z1 (Nat.le_trans FF.out.2.2 h)), FF.out.2.1⟩
      · skip
        obtain ⟨cwa7, wa7, hr, kn, d12⟩ := text_bytes wa1 text HX.out hl
        refine plan_one rfl rfl (fun K hK => ?_); go_simp
        refine hK _ _ ⟨SS.out _ (kk.trans (kn.mono (fun b h => Nat.lt_of_lt_of_le h kk.size))), ?_⟩
        clear hK K hr
        try simp only [Act.put]
        have d12 := d12.mono (q := fun b => w1.heap.size ≤ b) (fun b h => Nat.le_trans kk.size h)
        have d3 := cells_on d3 kn
        have kk := (kk.trans (kn.mono (fun b h => Nat.lt_of_lt_of_le h kk.size)))
        clear kn
        refine plan_one rfl rfl (fun K hK => ?_); go_simp
        refine (num_walk n wa7).mono ?_
        rintro e wa8 ⟨rfl, hn, kn⟩
        have d6 := num_cells (B := w1.heap.size) hn kk.size
        refine hK _ _ ⟨SS.out _ (kk.trans (kn.mono (fun b h => Nat.lt_of_lt_of_le h kk.size))), ?_⟩
        clear hK K hn
        try simp only [Act.put]
        have d3 := cells_on d3 kn
        have d12 := cells_on d12 kn
        have kk := (kk.trans (kn.mono (fun b h => Nat.lt_of_lt_of_le h kk.size)))
        clear kn
        refine plan_one rfl rfl (fun K hK => ?_); go_simp
        refine (num_walk f wa8).mono ?_
        rintro e wa9 ⟨rfl, hn, kn⟩
        have d9 := num_cells (B := w1.heap.size) hn kk.size
        refine hK _ _ ⟨SS.out _ (kk.trans (kn.mono (fun b h => Nat.lt_of_lt_of_le h kk.size))), ?_⟩
        clear hK K hn
        try simp only [Act.put]
        have d3 := cells_on d3 kn
        have d6 := cells_on d6 kn
        have d12 := cells_on d12 kn
        have kk := (kk.trans (kn.mono (fun b h => Nat.lt_of_lt_of_le h kk.size)))
        clear kn
        have kn : Keep (· < wa9.heap.size) wa9 (wa9.alloc (.cells [.slice (some ⟨w1.drew.heap.size, 0, none⟩) 1 1, .slice (some ⟨wa7.heap.size, 0, none⟩) 8 8, .slice (some ⟨wa8.heap.size, 0, none⟩) 8 8, .slice (some ⟨wa1.heap.size, 0, none⟩) text.length cwa7].toArray 32)) := (Keep.refl _ _).alloc _ (fun _ h => h)
        refine plan_one rfl rfl (fun K hK => ?_); go_simp
        refine hK _ _ ⟨SS.out _ (kk.trans (kn.mono (fun b h => Nat.lt_of_lt_of_le h kk.size))), ?_⟩
        clear hK K
        try simp only [Act.put]
        refine plan_world (fun wx => Keep (· < wa9.heap.size) wa9 wx ∧ Cells wx (fun _ => True) (.slice (some ⟨wa9.heap.size, 0, none⟩) 4 4) [.slice (some ⟨w1.drew.heap.size, 0, none⟩) 1 1, .slice (some ⟨wa7.heap.size, 0, none⟩) 8 8, .slice (some ⟨wa8.heap.size, 0, none⟩) 8 8, .slice (some ⟨wa1.heap.size, 0, none⟩) text.length cwa7]) ⟨kn, cells_made wa9 32 (fun _ => True) [.slice (some ⟨w1.drew.heap.size, 0, none⟩) 1 1, .slice (some ⟨wa7.heap.size, 0, none⟩) 8 8, .slice (some ⟨wa8.heap.size, 0, none⟩) 8 8, .slice (some ⟨wa1.heap.size, 0, none⟩) text.length cwa7] trivial (by simp)⟩ ?_
        clear kn
        rintro wx ⟨kn, cx⟩
        have rws : Rws wx (fun b => w1.heap.size ≤ b) [.slice (some ⟨w1.drew.heap.size, 0, none⟩) 1 1, .slice (some ⟨wa7.heap.size, 0, none⟩) 8 8, .slice (some ⟨wa8.heap.size, 0, none⟩) 8 8, .slice (some ⟨wa1.heap.size, 0, none⟩) text.length cwa7] [[x], Sha.be8 (Wr.u64 n), Sha.be8 (Wr.u64 f), text] := Rws.cons (cells_on d3 kn) (Rws.cons (cells_on d6 kn) (Rws.cons (cells_on d9 kn) (Rws.cons (cells_on d12 kn) (Rws.nil _ _))))
        have kk := (kk.trans (kn.mono (fun b h => Nat.lt_of_lt_of_le h kk.size)))
        clear kn d3 d6 d9 d12
        refine plan_one rfl rfl (fun K hK => ?_); go_simp
        refine (concat_walk _ _ _ wx _ _ (by simp [total, be8_len]; omega) cx rws).mono ?_
        rintro e wy ⟨v5, rfl, f5, kn, z5⟩
        refine hK _ _ ⟨SS.out _ (kk.trans (kn.mono (fun b h => Nat.lt_of_lt_of_le h kk.size))), ?_⟩
        clear hK K
        try simp only [Act.put]
        have FF := hid (And.intro f5 (And.intro (kk.trans (kn.mono (fun b h => Nat.lt_of_lt_of_le h kk.size))) kk.size))
        clear f5 kn kk cx rws
        refine plan_last rfl rfl (fun K hK => ?_); go_simp
        refine hK _ _ ?_
        clear hK K
        go_wp2_with fail
        go_meet
        case rel =>
          have e : Wr.reqBytes k n f text = [[x], Sha.be8 (Wr.u64 n), Sha.be8 (Wr.u64 f), text].flatten := by simp [Wr.reqBytes, HXX.out]
          rw [e]
          exact ⟨FF.out.1.cells.mono (fun b h => Nat.lt_of_lt_of_le z1 (Nat.le_trans FF.out.2.2 h)), FF.out.2.1⟩
    · skip
      refine ⟨?_, ?_⟩
      · skip
        refine plan_one rfl rfl (fun K hK => ?_); go_simp
        refine (num_walk n w1.drew).mono ?_
        rintro e wa10 ⟨rfl, hn, kn⟩
        have d6 := num_cells (B := w1.heap.size) hn kk.size
        refine hK _ _ ⟨SS.out _ (kk.trans (kn.mono (fun b h => Nat.lt_of_lt_of_le h kk.size))), ?_⟩
        clear hK K hn
        try simp only [Act.put]
        have kk := (kk.trans (kn.mono (fun b h => Nat.lt_of_lt_of_le h kk.size)))
        clear kn
        refine ⟨?_, ?_⟩
        · skip
          refine plan_one rfl rfl (fun K hK => ?_); go_simp
          refine hK _ _ ⟨SS.out _ (kk.alloc _ (fun _ h => Nat.lt_of_lt_of_le h kk.size)), ?_⟩
          clear hK K
          try simp only [Act.put]
          refine plan_world (fun wx => Keep (· < wa10.heap.size) wa10 wx ∧ Cells wx (fun b => w1.heap.size ≤ b) (.slice (some ⟨wa10.heap.size, 0, none⟩) 1 1) (ints .u8 [x])) ⟨(Keep.refl _ _).alloc _ (fun _ h => h), cells_made wa10 5 (fun b => w1.heap.size ≤ b) (ints .u8 [x]) kk.size (by simp [ints])⟩ ?_
          rintro wa11 ⟨kn, d3⟩
          have d6 := cells_on d6 kn
          have kk := (kk.trans (kn.mono (fun b h => Nat.lt_of_lt_of_le h kk.size)))
          clear kn
          refine ⟨?_, ?_⟩
          · skip
            refine plan_one rfl rfl (fun K hK => ?_); go_simp
            refine (num_walk f wa11).mono ?_
            rintro e wa12 ⟨rfl, hn, kn⟩
            have d9 := num_cells (B := w1.heap.size) hn kk.size
            refine hK _ _ ⟨SS.out _ (kk.trans (kn.mono (fun b h => Nat.lt_of_lt_of_le h kk.size))), ?_⟩
            clear hK K hn
            try simp only [Act.put]
            have d3 := cells_on d3 kn
            have d6 := cells_on d6 kn
            have kk := (kk.trans (kn.mono (fun b h => Nat.lt_of_lt_of_le h kk.size)))
            clear kn
            obtain ⟨cwa13, wa13, hr, kn, d12⟩ := text_bytes wa12 text HX.out hl
            refine plan_one rfl rfl (fun K hK => ?_); go_simp
            refine hK _ _ ⟨SS.out _ (kk.trans (kn.mono (fun b h => Nat.lt_of_lt_of_le h kk.size))), ?_⟩
            clear hK K hr
            try simp only [Act.put]
            have d12 := d12.mono (q := fun b => w1.heap.size ≤ b) (fun b h => Nat.le_trans kk.size h)
            have d3 := cells_on d3 kn
            have d6 := cells_on d6 kn
            have d9 := cells_on d9 kn
            have kk := (kk.trans (kn.mono (fun b h => Nat.lt_of_lt_of_le h kk.size)))
            clear kn
            have kn : Keep (· < wa13.heap.size) wa13 (wa13.alloc (.cells [.slice (some ⟨wa10.heap.size, 0, none⟩) 1 1, .slice (some ⟨w1.drew.heap.size, 0, none⟩) 8 8, .slice (some ⟨wa11.heap.size, 0, none⟩) 8 8, .slice (some ⟨wa12.heap.size, 0, none⟩) text.length cwa13].toArray 32)) := (Keep.refl _ _).alloc _ (fun _ h => h)
            refine plan_one rfl rfl (fun K hK => ?_); go_simp
            refine hK _ _ ⟨SS.out _ (kk.trans (kn.mono (fun b h => Nat.lt_of_lt_of_le h kk.size))), ?_⟩
            clear hK K
            try simp only [Act.put]
            refine plan_world (fun wx => Keep (· < wa13.heap.size) wa13 wx ∧ Cells wx (fun _ => True) (.slice (some ⟨wa13.heap.size, 0, none⟩) 4 4) [.slice (some ⟨wa10.heap.size, 0, none⟩) 1 1, .slice (some ⟨w1.drew.heap.size, 0, none⟩) 8 8, .slice (some ⟨wa11.heap.size, 0, none⟩) 8 8, .slice (some ⟨wa12.heap.size, 0, none⟩) text.length cwa13]) ⟨kn, cells_made wa13 32 (fun _ => True) [.slice (some ⟨wa10.heap.size, 0, none⟩) 1 1, .slice (some ⟨w1.drew.heap.size, 0, none⟩) 8 8, .slice (some ⟨wa11.heap.size, 0, none⟩) 8 8, .slice (some ⟨wa12.heap.size, 0, none⟩) text.length cwa13] trivial (by simp)⟩ ?_
            clear kn
            rintro wx ⟨kn, cx⟩
            have rws : Rws wx (fun b => w1.heap.size ≤ b) [.slice (some ⟨wa10.heap.size, 0, none⟩) 1 1, .slice (some ⟨w1.drew.heap.size, 0, none⟩) 8 8, .slice (some ⟨wa11.heap.size, 0, none⟩) 8 8, .slice (some ⟨wa12.heap.size, 0, none⟩) text.length cwa13] [[x], Sha.be8 (Wr.u64 n), Sha.be8 (Wr.u64 f), text] := Rws.cons (cells_on d3 kn) (Rws.cons (cells_on d6 kn) (Rws.cons (cells_on d9 kn) (Rws.cons (cells_on d12 kn) (Rws.nil _ _))))
            have kk := (kk.trans (kn.mono (fun b h => Nat.lt_of_lt_of_le h kk.size)))
            clear kn d3 d6 d9 d12
            refine plan_one rfl rfl (fun K hK => ?_); go_simp
            refine (concat_walk _ _ _ wx _ _ (by simp [total, be8_len]; omega) cx rws).mono ?_
            rintro e wy ⟨v5, rfl, f5, kn, z5⟩
            refine hK _ _ ⟨SS.out _ (kk.trans (kn.mono (fun b h => Nat.lt_of_lt_of_le h kk.size))), ?_⟩
            clear hK K
            try simp only [Act.put]
            have FF := hid (And.intro f5 (And.intro (kk.trans (kn.mono (fun b h => Nat.lt_of_lt_of_le h kk.size))) kk.size))
            clear f5 kn kk cx rws
            refine plan_last rfl rfl (fun K hK => ?_); go_simp
            refine hK _ _ ?_
            clear hK K
            go_wp2_with fail
            go_meet
            case rel =>
              have e : Wr.reqBytes k n f text = [[x], Sha.be8 (Wr.u64 n), Sha.be8 (Wr.u64 f), text].flatten := by simp [Wr.reqBytes, HXX.out]
              rw [e]
              exact ⟨FF.out.1.cells.mono (fun b h => Nat.lt_of_lt_of_le z1 (Nat.le_trans FF.out.2.2 h)), FF.out.2.1⟩
          · skip
            obtain ⟨cwa14, wa14, hr, kn, d12⟩ := text_bytes wa11 text HX.out hl
            refine plan_one rfl rfl (fun K hK => ?_); go_simp
            refine hK _ _ ⟨SS.out _ (kk.trans (kn.mono (fun b h => Nat.lt_of_lt_of_le h kk.size))), ?_⟩
            clear hK K hr
            try simp only [Act.put]
            have d12 := d12.mono (q := fun b => w1.heap.size ≤ b) (fun b h => Nat.le_trans kk.size h)
            have d3 := cells_on d3 kn
            have d6 := cells_on d6 kn
            have kk := (kk.trans (kn.mono (fun b h => Nat.lt_of_lt_of_le h kk.size)))
            clear kn
            refine plan_one rfl rfl (fun K hK => ?_); go_simp
            refine (num_walk f wa14).mono ?_
            rintro e wa15 ⟨rfl, hn, kn⟩
            have d9 := num_cells (B := w1.heap.size) hn kk.size
            refine hK _ _ ⟨SS.out _ (kk.trans (kn.mono (fun b h => Nat.lt_of_lt_of_le h kk.size))), ?_⟩
            clear hK K hn
            try simp only [Act.put]
            have d3 := cells_on d3 kn
            have d6 := cells_on d6 kn
            have d12 := cells_on d12 kn
            have kk := (kk.trans (kn.mono (fun b h => Nat.lt_of_lt_of_le h kk.size)))
            clear kn
            have kn : Keep (· < wa15.heap.size) wa15 (wa15.alloc (.cells [.slice (some ⟨wa10.heap.size, 0, none⟩) 1 1, .slice (some ⟨w1.drew.heap.size, 0, none⟩) 8 8, .slice (some ⟨wa14.heap.size, 0, none⟩) 8 8, .slice (some ⟨wa11.heap.size, 0, none⟩) text.length cwa14].toArray 32)) := (Keep.refl _ _).alloc _ (fun _ h => h)
            refine plan_one rfl rfl (fun K hK => ?_); go_simp
            refine hK _ _ ⟨SS.out _ (kk.trans (kn.mono (fun b h => Nat.lt_of_lt_of_le h kk.size))), ?_⟩
            clear hK K
            try simp only [Act.put]
            refine plan_world (fun wx => Keep (· < wa15.heap.size) wa15 wx ∧ Cells wx (fun _ => True) (.slice (some ⟨wa15.heap.size, 0, none⟩) 4 4) [.slice (some ⟨wa10.heap.size, 0, none⟩) 1 1, .slice (some ⟨w1.drew.heap.size, 0, none⟩) 8 8, .slice (some ⟨wa14.heap.size, 0, none⟩) 8 8, .slice (some ⟨wa11.heap.size, 0, none⟩) text.length cwa14]) ⟨kn, cells_made wa15 32 (fun _ => True) [.slice (some ⟨wa10.heap.size, 0, none⟩) 1 1, .slice (some ⟨w1.drew.heap.size, 0, none⟩) 8 8, .slice (some ⟨wa14.heap.size, 0, none⟩) 8 8, .slice (some ⟨wa11.heap.size, 0, none⟩) text.length cwa14] trivial (by simp)⟩ ?_
            clear kn
            rintro wx ⟨kn, cx⟩
            have rws : Rws wx (fun b => w1.heap.size ≤ b) [.slice (some ⟨wa10.heap.size, 0, none⟩) 1 1, .slice (some ⟨w1.drew.heap.size, 0, none⟩) 8 8, .slice (some ⟨wa14.heap.size, 0, none⟩) 8 8, .slice (some ⟨wa11.heap.size, 0, none⟩) text.length cwa14] [[x], Sha.be8 (Wr.u64 n), Sha.be8 (Wr.u64 f), text] := Rws.cons (cells_on d3 kn) (Rws.cons (cells_on d6 kn) (Rws.cons (cells_on d9 kn) (Rws.cons (cells_on d12 kn) (Rws.nil _ _))))
            have kk := (kk.trans (kn.mono (fun b h => Nat.lt_of_lt_of_le h kk.size)))
            clear kn d3 d6 d9 d12
            refine plan_one rfl rfl (fun K hK => ?_); go_simp
            refine (concat_walk _ _ _ wx _ _ (by simp [total, be8_len]; omega) cx rws).mono ?_
            rintro e wy ⟨v5, rfl, f5, kn, z5⟩
            refine hK _ _ ⟨SS.out _ (kk.trans (kn.mono (fun b h => Nat.lt_of_lt_of_le h kk.size))), ?_⟩
            clear hK K
            try simp only [Act.put]
            have FF := hid (And.intro f5 (And.intro (kk.trans (kn.mono (fun b h => Nat.lt_of_lt_of_le h kk.size))) kk.size))
            clear f5 kn kk cx rws
            refine plan_last rfl rfl (fun K hK => ?_); go_simp
            refine hK _ _ ?_
            clear hK K
            go_wp2_with fail
            go_meet
            case rel =>
              have e : Wr.reqBytes k n f text = [[x], Sha.be8 (Wr.u64 n), Sha.be8 (Wr.u64 f), text].flatten := by simp [Wr.reqBytes, HXX.out]
              rw [e]
              exact ⟨FF.out.1.cells.mono (fun b h => Nat.lt_of_lt_of_le z1 (Nat.le_trans FF.out.2.2 h)), FF.out.2.1⟩
        · skip
          refine ⟨?_, ?_⟩
          · skip
            refine plan_one rfl rfl (fun K hK => ?_); go_simp
            refine (num_walk f wa10).mono ?_
            rintro e wa16 ⟨rfl, hn, kn⟩
            have d9 := num_cells (B := w1.heap.size) hn kk.size
            refine hK _ _ ⟨SS.out _ (kk.trans (kn.mono (fun b h => Nat.lt_of_lt_of_le h kk.size))), ?_⟩
            clear hK K hn
            try simp only [Act.put]
            have d6 := cells_on d6 kn
            have kk := (kk.trans (kn.mono (fun b h => Nat.lt_of_lt_of_le h kk.size)))
            clear kn
            refine ⟨?_, ?_⟩
            · skip
              refine plan_one rfl rfl (fun K hK => ?_); go_simp
              refine hK _ _ ⟨SS.out _ (kk.alloc _ (fun _ h => Nat.lt_of_lt_of_le h kk.size)), ?_⟩
              clear hK K
              try simp only [Act.put]
              refine plan_world (fun wx => Keep (· < wa16.heap.size) wa16 wx ∧ Cells wx (fun b => w1.heap.size ≤ b) (.slice (some ⟨wa16.heap.size, 0, none⟩) 1 1) (ints .u8 [x])) ⟨(Keep.refl _ _).alloc _ (fun _ h => h), cells_made wa16 5 (fun b => w1.heap.size ≤ b) (ints .u8 [x]) kk.size (by simp [ints])⟩ ?_
              rintro wa17 ⟨kn, d3⟩
              have d6 := cells_on d6 kn
              have d9 := cells_on d9 kn
              have kk := (kk.trans (kn.mono (fun b h => Nat.lt_of_lt_of_le h kk.size)))
              clear kn
              obtain ⟨cwa18, wa18, hr, kn, d12⟩ := text_bytes wa17 text HX.out hl
              refine plan_one rfl rfl (fun K hK => ?_); go_simp
              refine hK _ _ ⟨SS.out _ (kk.trans (kn.mono (fun b h => Nat.lt_of_lt_of_le h kk.size))), ?_⟩
              clear hK K hr
              try simp only [Act.put]
              have d12 := d12.mono (q := fun b => w1.heap.size ≤ b) (fun b h => Nat.le_trans kk.size h)
              have d3 := cells_on d3 kn
              have d6 := cells_on d6 kn
              have d9 := cells_on d9 kn
              have kk := (kk.trans (kn.mono (fun b h => Nat.lt_of_lt_of_le h kk.size)))
              clear kn
              have kn : Keep (· < wa18.heap.size) wa18 (wa18.alloc (.cells [.slice (some ⟨wa16.heap.size, 0, none⟩) 1 1, .slice (some ⟨w1.drew.heap.size, 0, none⟩) 8 8, .slice (some ⟨wa10.heap.size, 0, none⟩) 8 8, .slice (some ⟨wa17.heap.size, 0, none⟩) text.length cwa18].toArray 32)) := (Keep.refl _ _).alloc _ (fun _ h => h)
              refine plan_one rfl rfl (fun K hK => ?_); go_simp
              refine hK _ _ ⟨SS.out _ (kk.trans (kn.mono (fun b h => Nat.lt_of_lt_of_le h kk.size))), ?_⟩
              clear hK K
              try simp only [Act.put]
              refine plan_world (fun wx => Keep (· < wa18.heap.size) wa18 wx ∧ Cells wx (fun _ => True) (.slice (some ⟨wa18.heap.size, 0, none⟩) 4 4) [.slice (some ⟨wa16.heap.size, 0, none⟩) 1 1, .slice (some ⟨w1.drew.heap.size, 0, none⟩) 8 8, .slice (some ⟨wa10.heap.size, 0, none⟩) 8 8, .slice (some ⟨wa17.heap.size, 0, none⟩) text.length cwa18]) ⟨kn, cells_made wa18 32 (fun _ => True) [.slice (some ⟨wa16.heap.size, 0, none⟩) 1 1, .slice (some ⟨w1.drew.heap.size, 0, none⟩) 8 8, .slice (some ⟨wa10.heap.size, 0, none⟩) 8 8, .slice (some ⟨wa17.heap.size, 0, none⟩) text.length cwa18] trivial (by simp)⟩ ?_
              clear kn
              rintro wx ⟨kn, cx⟩
              have rws : Rws wx (fun b => w1.heap.size ≤ b) [.slice (some ⟨wa16.heap.size, 0, none⟩) 1 1, .slice (some ⟨w1.drew.heap.size, 0, none⟩) 8 8, .slice (some ⟨wa10.heap.size, 0, none⟩) 8 8, .slice (some ⟨wa17.heap.size, 0, none⟩) text.length cwa18] [[x], Sha.be8 (Wr.u64 n), Sha.be8 (Wr.u64 f), text] := Rws.cons (cells_on d3 kn) (Rws.cons (cells_on d6 kn) (Rws.cons (cells_on d9 kn) (Rws.cons (cells_on d12 kn) (Rws.nil _ _))))
              have kk := (kk.trans (kn.mono (fun b h => Nat.lt_of_lt_of_le h kk.size)))
              clear kn d3 d6 d9 d12
              refine plan_one rfl rfl (fun K hK => ?_); go_simp
              refine (concat_walk _ _ _ wx _ _ (by simp [total, be8_len]; omega) cx rws).mono ?_
              rintro e wy ⟨v5, rfl, f5, kn, z5⟩
              refine hK _ _ ⟨SS.out _ (kk.trans (kn.mono (fun b h => Nat.lt_of_lt_of_le h kk.size))), ?_⟩
              clear hK K
              try simp only [Act.put]
              have FF := hid (And.intro f5 (And.intro (kk.trans (kn.mono (fun b h => Nat.lt_of_lt_of_le h kk.size))) kk.size))
              clear f5 kn kk cx rws
              refine plan_last rfl rfl (fun K hK => ?_); go_simp
              refine hK _ _ ?_
              clear hK K
              go_wp2_with fail
              go_meet
              case rel =>
                have e : Wr.reqBytes k n f text = [[x], Sha.be8 (Wr.u64 n), Sha.be8 (Wr.u64 f), text].flatten := by simp [Wr.reqBytes, HXX.out]
                rw [e]
                exact ⟨FF.out.1.cells.mono (fun b h => Nat.lt_of_lt_of_le z1 (Nat.le_trans FF.out.2.2 h)), FF.out.2.1⟩
            · skip
              obtain ⟨cwa19, wa19, hr, kn, d12⟩ := text_bytes wa16 text HX.out hl
              refine plan_one rfl rfl (fun K hK => ?_); go_simp
              refine hK _ _ ⟨SS.out _ (kk.trans (kn.mono (fun b h => Nat.lt_of_lt_of_le h kk.size))), ?_⟩
              clear hK K hr
              try simp only [Act.put]
              have d12 := d12.mono (q := fun b => w1.heap.size ≤ b) (fun b h => Nat.le_trans kk.size h)
              have d6 := cells_on d6 kn
              have d9 := cells_on d9 kn
              have kk := (kk.trans (kn.mono (fun b h => Nat.lt_of_lt_of_le h kk.size)))
              clear kn
              refine plan_one rfl rfl (fun K hK => ?_); go_simp
              refine hK _ _ ⟨SS.out _ (kk.alloc _ (fun _ h => Nat.lt_of_lt_of_le h kk.size)), ?_⟩
              clear hK K
              try simp only [Act.put]
              refine plan_world (fun wx => Keep (· < wa19.heap.size) wa19 wx ∧ Cells wx (fun b => w1.heap.size ≤ b) (.slice (some ⟨wa19.heap.size, 0, none⟩) 1 1) (ints .u8 [x])) ⟨(Keep.refl _ _).alloc _ (fun _ h => h), cells_made wa19 5 (fun b => w1.heap.size ≤ b) (ints .u8 [x]) kk.size (by simp [ints])⟩ ?_
              rintro wa20 ⟨kn, d3⟩
              have d6 := cells_on d6 kn
              have d9 := cells_on d9 kn
              have d12 := cells_on d12 kn
              have kk := (kk.trans (kn.mono (fun b h => Nat.lt_of_lt_of_le h kk.size)))
              clear kn
              have kn : Keep (· < wa20.heap.size) wa20 (wa20.alloc (.cells [.slice (some ⟨wa19.heap.size, 0, none⟩) 1 1, .slice (some ⟨w1.drew.heap.size, 0, none⟩) 8 8, .slice (some ⟨wa10.heap.size, 0, none⟩) 8 8, .slice (some ⟨wa16.heap.size, 0, none⟩) text.length cwa19].toArray 32)) := (Keep.refl _ _).alloc _ (fun _ h => h)
              refine plan_one rfl rfl (fun K hK => ?_); go_simp
              refine hK _ _ ⟨SS.out _ (kk.trans (kn.mono (fun b h => Nat.lt_of_lt_of_le h kk.size))), ?_⟩
              clear hK K
              try simp only [Act.put]
              refine plan_world (fun wx => Keep (· < wa20.heap.size) wa20 wx ∧ Cells wx (fun _ => True) (.slice (some ⟨wa20.heap.size, 0, none⟩) 4 4) [.slice (some ⟨wa19.heap.size, 0, none⟩) 1 1, .slice (some ⟨w1.drew.heap.size, 0, none⟩) 8 8, .slice (some ⟨wa10.heap.size, 0, none⟩) 8 8, .slice (some ⟨wa16.heap.size, 0, none⟩) text.length cwa19]) ⟨kn, cells_made wa20 32 (fun _ => True) [.slice (some ⟨wa19.heap.size, 0, none⟩) 1 1, .slice (some ⟨w1.drew.heap.size, 0, none⟩) 8 8, .slice (some ⟨wa10.heap.size, 0, none⟩) 8 8, .slice (some ⟨wa16.heap.size, 0, none⟩) text.length cwa19] trivial (by simp)⟩ ?_
              clear kn
              rintro wx ⟨kn, cx⟩
              have rws : Rws wx (fun b => w1.heap.size ≤ b) [.slice (some ⟨wa19.heap.size, 0, none⟩) 1 1, .slice (some ⟨w1.drew.heap.size, 0, none⟩) 8 8, .slice (some ⟨wa10.heap.size, 0, none⟩) 8 8, .slice (some ⟨wa16.heap.size, 0, none⟩) text.length cwa19] [[x], Sha.be8 (Wr.u64 n), Sha.be8 (Wr.u64 f), text] := Rws.cons (cells_on d3 kn) (Rws.cons (cells_on d6 kn) (Rws.cons (cells_on d9 kn) (Rws.cons (cells_on d12 kn) (Rws.nil _ _))))
              have kk := (kk.trans (kn.mono (fun b h => Nat.lt_of_lt_of_le h kk.size)))
              clear kn d3 d6 d9 d12
              refine plan_one rfl rfl (fun K hK => ?_); go_simp
              refine (concat_walk _ _ _ wx _ _ (by simp [total, be8_len]; omega) cx rws).mono ?_
              rintro e wy ⟨v5, rfl, f5, kn, z5⟩
              refine hK _ _ ⟨SS.out _ (kk.trans (kn.mono (fun b h => Nat.lt_of_lt_of_le h kk.size))), ?_⟩
              clear hK K
              try simp only [Act.put]
              have FF := hid (And.intro f5 (And.intro (kk.trans (kn.mono (fun b h => Nat.lt_of_lt_of_le h kk.size))) kk.size))
              clear f5 kn kk cx rws
              refine plan_last rfl rfl (fun K hK => ?_); go_simp
              refine hK _ _ ?_
              clear hK K
              go_wp2_with fail
              go_meet
              case rel =>
                have e : Wr.reqBytes k n f text = [[x], Sha.be8 (Wr.u64 n), Sha.be8 (Wr.u64 f), text].flatten := by simp [Wr.reqBytes, HXX.out]
                rw [e]
                exact ⟨FF.out.1.cells.mono (fun b h => Nat.lt_of_lt_of_le z1 (Nat.le_trans FF.out.2.2 h)), FF.out.2.1⟩
          · skip
            obtain ⟨cwa21, wa21, hr, kn, d12⟩ := text_bytes wa10 text HX.out hl
            refine plan_one rfl rfl (fun K hK => ?_); go_simp
            refine hK _ _ ⟨SS.out _ (kk.trans (kn.mono (fun b h => Nat.lt_of_lt_of_le h kk.size))), ?_⟩
            clear hK K hr
            try simp only [Act.put]
            have d12 := d12.mono (q := fun b => w1.heap.size ≤ b) (fun b h => Nat.le_trans kk.size h)
            have d6 := cells_on d6 kn
            have kk := (kk.trans (kn.mono (fun b h => Nat.lt_of_lt_of_le h kk.size)))
            clear kn
            refine ⟨?_, ?_⟩
            · skip
              refine plan_one rfl rfl (fun K hK => ?_); go_simp
              refine hK _ _ ⟨SS.out _ (kk.alloc _ (fun _ h => Nat.lt_of_lt_of_le h kk.size)), ?_⟩
              clear hK K
              try simp only [Act.put]
              refine plan_world (fun wx => Keep (· < wa21.heap.size) wa21 wx ∧ Cells wx (fun b => w1.heap.size ≤ b) (.slice (some ⟨wa21.heap.size, 0, none⟩) 1 1) (ints .u8 [x])) ⟨(Keep.refl _ _).alloc _ (fun _ h => h), cells_made wa21 5 (fun b => w1.heap.size ≤ b) (ints .u8 [x]) kk.size (by simp [ints])⟩ ?_
              rintro wa22 ⟨kn, d3⟩
              have d6 := cells_on d6 kn
              have d12 := cells_on d12 kn
              have kk := (kk.trans (kn.mono (fun b h => Nat.lt_of_lt_of_le h kk.size)))
              clear kn
              refine plan_one rfl rfl (fun K hK => ?_); go_simp
              refine (num_walk f wa22).mono ?_
              rintro e wa23 ⟨rfl, hn, kn⟩
              have d9 := num_cells (B := w1.heap.size) hn kk.size
              refine hK _ _ ⟨SS.out _ (kk.trans (kn.mono (fun b h => Nat.lt_of_lt_of_le h kk.size))), ?_⟩
              clear hK K hn
              try simp only [Act.put]
              have d3 := cells_on d3 kn
              have d6 := cells_on d6 kn
              have d12 := cells_on d12 kn
              have kk := (kk.trans (kn.mono (fun b h => Nat.lt_of_lt_of_le h kk.size)))
              clear kn
              have kn : Keep (· < wa23.heap.size) wa23 (wa23.alloc (.cells [.slice (some ⟨wa21.heap.size, 0, none⟩) 1 1, .slice (some ⟨w1.drew.heap.size, 0, none⟩) 8 8, .slice (some ⟨wa22.heap.size, 0, none⟩) 8 8, .slice (some ⟨wa10.heap.size, 0, none⟩) text.length cwa21].toArray 32)) := (Keep.refl _ _).alloc _ (fun _ h => h)
              refine plan_one rfl rfl (fun K hK => ?_); go_simp
              refine hK _ _ ⟨SS.out _ (kk.trans (kn.mono (fun b h => Nat.lt_of_lt_of_le h kk.size))), ?_⟩
              clear hK K
              try simp only [Act.put]
              refine plan_world (fun wx => Keep (· < wa23.heap.size) wa23 wx ∧ Cells wx (fun _ => True) (.slice (some ⟨wa23.heap.size, 0, none⟩) 4 4) [.slice (some ⟨wa21.heap.size, 0, none⟩) 1 1, .slice (some ⟨w1.drew.heap.size, 0, none⟩) 8 8, .slice (some ⟨wa22.heap.size, 0, none⟩) 8 8, .slice (some ⟨wa10.heap.size, 0, none⟩) text.length cwa21]) ⟨kn, cells_made wa23 32 (fun _ => True) [.slice (some ⟨wa21.heap.size, 0, none⟩) 1 1, .slice (some ⟨w1.drew.heap.size, 0, none⟩) 8 8, .slice (some ⟨wa22.heap.size, 0, none⟩) 8 8, .slice (some ⟨wa10.heap.size, 0, none⟩) text.length cwa21] trivial (by simp)⟩ ?_
              clear kn
              rintro wx ⟨kn, cx⟩
              have rws : Rws wx (fun b => w1.heap.size ≤ b) [.slice (some ⟨wa21.heap.size, 0, none⟩) 1 1, .slice (some ⟨w1.drew.heap.size, 0, none⟩) 8 8, .slice (some ⟨wa22.heap.size, 0, none⟩) 8 8, .slice (some ⟨wa10.heap.size, 0, none⟩) text.length cwa21] [[x], Sha.be8 (Wr.u64 n), Sha.be8 (Wr.u64 f), text] := Rws.cons (cells_on d3 kn) (Rws.cons (cells_on d6 kn) (Rws.cons (cells_on d9 kn) (Rws.cons (cells_on d12 kn) (Rws.nil _ _))))
              have kk := (kk.trans (kn.mono (fun b h => Nat.lt_of_lt_of_le h kk.size)))
              clear kn d3 d6 d9 d12
              refine plan_one rfl rfl (fun K hK => ?_); go_simp
              refine (concat_walk _ _ _ wx _ _ (by simp [total, be8_len]; omega) cx rws).mono ?_
              rintro e wy ⟨v5, rfl, f5, kn, z5⟩
              refine hK _ _ ⟨SS.out _ (kk.trans (kn.mono (fun b h => Nat.lt_of_lt_of_le h kk.size))), ?_⟩
              clear hK K
              try simp only [Act.put]
              have FF := hid (And.intro f5 (And.intro (kk.trans (kn.mono (fun b h => Nat.lt_of_lt_of_le h kk.size))) kk.size))
              clear f5 kn kk cx rws
              refine plan_last rfl rfl (fun K hK => ?_); go_simp
              refine hK _ _ ?_
              clear hK K
              go_wp2_with fail
              go_meet
              case rel =>
                have e : Wr.reqBytes k n f text = [[x], Sha.be8 (Wr.u64 n), Sha.be8 (Wr.u64 f), text].flatten := by simp [Wr.reqBytes, HXX.out]
                rw [e]
                exact ⟨FF.out.1.cells.mono (fun b h => Nat.lt_of_lt_of_le z1 (Nat.le_trans FF.out.2.2 h)), FF.out.2.1⟩
            · skip
              refine plan_one rfl rfl (fun K hK => ?_); go_simp
              refine (num_walk f wa21).mono ?_
              rintro e wa24 ⟨rfl, hn, kn⟩
              have d9 := num_cells (B := w1.heap.size) hn kk.size
              refine hK _ _ ⟨SS.out _ (kk.trans (kn.mono (fun b h => Nat.lt_of_lt_of_le h kk.size))), ?_⟩
              clear hK K hn
              try simp only [Act.put]
              have d6 := cells_on d6 kn
              have d12 := cells_on d12 kn
              have kk := (kk.trans (kn.mono (fun b h => Nat.lt_of_lt_of_le h kk.size)))
              clear kn
              refine plan_one rfl rfl (fun K hK => ?_); go_simp
              refine hK _ _ ⟨SS.out _ (kk.alloc _ (fun _ h => Nat.lt_of_lt_of_le h kk.size)), ?_⟩
              clear hK K
              try simp only [Act.put]
              refine plan_world (fun wx => Keep (· < wa24.heap.size) wa24 wx ∧ Cells wx (fun b => w1.heap.size ≤ b) (.slice (some ⟨wa24.heap.size, 0, none⟩) 1 1) (ints .u8 [x])) ⟨(Keep.refl _ _).alloc _ (fun _ h => h), cells_made wa24 5 (fun b => w1.heap.size ≤ b) (ints .u8 [x]) kk.size (by simp [ints])⟩ ?_
              rintro wa25 ⟨kn, d3⟩
              have d6 := cells_on d6 kn
              have d9 := cells_on d9 kn
              have d12 := cells_on d12 kn
              have kk := (kk.trans (kn.mono (fun b h => Nat.lt_of_lt_of_le h kk.size)))
              clear kn
              have kn : Keep (· < wa25.heap.size) wa25 (wa25.alloc (.cells [.slice (some ⟨wa24.heap.size, 0, none⟩) 1 1, .slice (some ⟨w1.drew.heap.size, 0, none⟩) 8 8, .slice (some ⟨wa21.heap.size, 0, none⟩) 8 8, .slice (some ⟨wa10.heap.size, 0, none⟩) text.length cwa21].toArray 32)) := (Keep.refl _ _).alloc _ (fun _ h => h)
              refine plan_one rfl rfl (fun K hK => ?_); go_simp
              refine hK _ _ ⟨SS.out _ (kk.trans (kn.mono (fun b h => Nat.lt_of_lt_of_le h kk.size))), ?_⟩
              clear hK K
              try simp only [Act.put]
              refine plan_world (fun wx => Keep (· < wa25.heap.size) wa25 wx ∧ Cells wx (fun _ => True) (.slice (some ⟨wa25.heap.size, 0, none⟩) 4 4) [.slice (some ⟨wa24.heap.size, 0, none⟩) 1 1, .slice (some ⟨w1.drew.heap.size, 0, none⟩) 8 8, .slice (some ⟨wa21.heap.size, 0, none⟩) 8 8, .slice (some ⟨wa10.heap.size, 0, none⟩) text.length cwa21]) ⟨kn, cells_made wa25 32 (fun _ => True) [.slice (some ⟨wa24.heap.size, 0, none⟩) 1 1, .slice (some ⟨w1.drew.heap.size, 0, none⟩) 8 8, .slice (some ⟨wa21.heap.size, 0, none⟩) 8 8, .slice (some ⟨wa10.heap.size, 0, none⟩) text.length cwa21] trivial (by simp)⟩ ?_
              clear kn
              rintro wx ⟨kn, cx⟩
              have rws : Rws wx (fun b => w1.heap.size ≤ b) [.slice (some ⟨wa24.heap.size, 0, none⟩) 1 1, .slice (some ⟨w1.drew.heap.size, 0, none⟩) 8 8, .slice (some ⟨wa21.heap.size, 0, none⟩) 8 8, .slice (some ⟨wa10.heap.size, 0, none⟩) text.length cwa21] [[x], Sha.be8 (Wr.u64 n), Sha.be8 (Wr.u64 f), text] := Rws.cons (cells_on d3 kn) (Rws.cons (cells_on d6 kn) (Rws.cons (cells_on d9 kn) (Rws.cons (cells_on d12 kn) (Rws.nil _ _))))
              have kk := (kk.trans (kn.mono (fun b h => Nat.lt_of_lt_of_le h kk.size)))
              clear kn d3 d6 d9 d12
              refine plan_one rfl rfl (fun K hK => ?_); go_simp
              refine (concat_walk _ _ _ wx _ _ (by simp [total, be8_len]; omega) cx rws).mono ?_
              rintro e wy ⟨v5, rfl, f5, kn, z5⟩
              refine hK _ _ ⟨SS.out _ (kk.trans (kn.mono (fun b h => Nat.lt_of_lt_of_le h kk.size))), ?_⟩
              clear hK K
              try simp only [Act.put]
              have FF := hid (And.intro f5 (And.intro (kk.trans (kn.mono (fun b h => Nat.lt_of_lt_of_le h kk.size))) kk.size))
              clear f5 kn kk cx rws
              refine plan_last rfl rfl (fun K hK => ?_); go_simp
              refine hK _ _ ?_
              clear hK K
              go_wp2_with fail
              go_meet
              case rel =>
                have e : Wr.reqBytes k n f text = [[x], Sha.be8 (Wr.u64 n), Sha.be8 (Wr.u64 f), text].flatten := by simp [Wr.reqBytes, HXX.out]
                rw [e]
                exact ⟨FF.out.1.cells.mono (fun b h => Nat.lt_of_lt_of_le z1 (Nat.le_trans FF.out.2.2 h)), FF.out.2.1⟩
      · skip
        obtain ⟨cwa26, wa26, hr, kn, d12⟩ := text_bytes w1.drew text HX.out hl
        refine plan_one rfl rfl (fun K hK => ?_); go_simp
        refine hK _ _ ⟨SS.out _ (kk.trans (kn.mono (fun b h => Nat.lt_of_lt_of_le h kk.size))), ?_⟩
        clear hK K hr
        try simp only [Act.put]
        have d12 := d12.mono (q := fun b => w1.heap.size ≤ b) (fun b h => Nat.le_trans kk.size h)
        have kk := (kk.trans (kn.mono (fun b h => Nat.lt_of_lt_of_le h kk.size)))
        clear kn
        refine ⟨?_, ?_⟩
        · skip
          refine plan_one rfl rfl (fun K hK => ?_); go_simp
          refine hK _ _ ⟨SS.out _ (kk.alloc _ (fun _ h => Nat.lt_of_lt_of_le h kk.size)), ?_⟩
          clear hK K
          try simp only [Act.put]
          refine plan_world (fun wx => Keep (· < wa26.heap.size) wa26 wx ∧ Cells wx (fun b => w1.heap.size ≤ b) (.slice (some ⟨wa26.heap.size, 0, none⟩) 1 1) (ints .u8 [x])) ⟨(Keep.refl _ _).alloc _ (fun _ h => h), cells_made wa26 5 (fun b => w1.heap.size ≤ b) (ints .u8 [x]) kk.size (by simp [ints])⟩ ?_
          rintro wa27 ⟨kn, d3⟩
          have d12 := cells_on d12 kn
          have kk := (kk.trans (kn.mono (fun b h => Nat.lt_of_lt_of_le h kk.size)))
          clear kn
          refine plan_one rfl rfl (fun K hK => ?_); go_simp
          refine (num_walk n wa27).mono ?_
          rintro e wa28 ⟨rfl, hn, kn⟩
          have d6 := num_cells (B := w1.heap.size) hn kk.size
          refine hK _ _ ⟨SS.out _ (kk.trans (kn.mono (fun b h => Nat.lt_of_lt_of_le h kk.size))), ?_⟩
          clear hK K hn
          try simp only [Act.put]
          have d3 := cells_on d3 kn
          have d12 := cells_on d12 kn
          have kk := (kk.trans (kn.mono (fun b h => Nat.lt_of_lt_of_le h kk.size)))
          clear kn
          refine plan_one rfl rfl (fun K hK => ?_); go_simp
          refine (num_walk f wa28).mono ?_
          rintro e wa29 ⟨rfl, hn, kn⟩
          have d9 := num_cells (B := w1.heap.size) hn kk.size
          refine hK _ _ ⟨SS.out _ (kk.trans (kn.mono (fun b h => Nat.lt_of_lt_of_le h kk.size))), ?_⟩
          clear hK K hn
          try simp only [Act.put]
          have d3 := cells_on d3 kn
          have d6 := cells_on d6 kn
          have d12 := cells_on d12 kn
          have kk := (kk.trans (kn.mono (fun b h => Nat.lt_of_lt_of_le h kk.size)))
          clear kn
          have kn : Keep (· < wa29.heap.size) wa29 (wa29.alloc (.cells [.slice (some ⟨wa26.heap.size, 0, none⟩) 1 1, .slice (some ⟨wa27.heap.size, 0, none⟩) 8 8, .slice (some ⟨wa28.heap.size, 0, none⟩) 8 8, .slice (some ⟨w1.drew.heap.size, 0, none⟩) text.length cwa26].toArray 32)) := (Keep.refl _ _).alloc _ (fun _ h => h)
          refine plan_one rfl rfl (fun K hK => ?_); go_simp
          refine hK _ _ ⟨SS.out _ (kk.trans (kn.mono (fun b h => Nat.lt_of_lt_of_le h kk.size))), ?_⟩
          clear hK K
          try simp only [Act.put]
          refine plan_world (fun wx => Keep (· < wa29.heap.size) wa29 wx ∧ Cells wx (fun _ => True) (.slice (some ⟨wa29.heap.size, 0, none⟩) 4 4) [.slice (some ⟨wa26.heap.size, 0, none⟩) 1 1, .slice (some ⟨wa27.heap.size, 0, none⟩) 8 8, .slice (some ⟨wa28.heap.size, 0, none⟩) 8 8, .slice (some ⟨w1.drew.heap.size, 0, none⟩) text.length cwa26]) ⟨kn, cells_made wa29 32 (fun _ => True) [.slice (some ⟨wa26.heap.size, 0, none⟩) 1 1, .slice (some ⟨wa27.heap.size, 0, none⟩) 8 8, .slice (some ⟨wa28.heap.size, 0, none⟩) 8 8, .slice (some ⟨w1.drew.heap.size, 0, none⟩) text.length cwa26] trivial (by simp)⟩ ?_
          clear kn
          rintro wx ⟨kn, cx⟩
          have rws : Rws wx (fun b => w1.heap.size ≤ b) [.slice (some ⟨wa26.heap.size, 0, none⟩) 1 1, .slice (some ⟨wa27.heap.size, 0, none⟩) 8 8, .slice (some ⟨wa28.heap.size, 0, none⟩) 8 8, .slice (some ⟨w1.drew.heap.size, 0, none⟩) text.length cwa26] [[x], Sha.be8 (Wr.u64 n), Sha.be8 (Wr.u64 f), text] := Rws.cons (cells_on d3 kn) (Rws.cons (cells_on d6 kn) (Rws.cons (cells_on d9 kn) (Rws.cons (cells_on d12 kn) (Rws.nil _ _))))
          have kk := (kk.trans (kn.mono (fun b h => Nat.lt_of_lt_of_le h kk.size)))
          clear kn d3 d6 d9 d12
          refine plan_one rfl rfl (fun K hK => ?_); go_simp
          refine (concat_walk _ _ _ wx _ _ (by simp [total, be8_len]; omega) cx rws).mono ?_
          rintro e wy ⟨v5, rfl, f5, kn, z5⟩
          refine hK _ _ ⟨SS.out _ (kk.trans (kn.mono (fun b h => Nat.lt_of_lt_of_le h kk.size))), ?_⟩
          clear hK K
          try simp only [Act.put]
          have FF := hid (And.intro f5 (And.intro (kk.trans (kn.mono (fun b h => Nat.lt_of_lt_of_le h kk.size))) kk.size))
          clear f5 kn kk cx rws
          refine plan_last rfl rfl (fun K hK => ?_); go_simp
          refine hK _ _ ?_
          clear hK K
          go_wp2_with fail
          go_meet
          case rel =>
            have e : Wr.reqBytes k n f text = [[x], Sha.be8 (Wr.u64 n), Sha.be8 (Wr.u64 f), text].flatten := by simp [Wr.reqBytes, HXX.out]
            rw [e]
            exact ⟨FF.out.1.cells.mono (fun b h => Nat.lt_of_lt_of_le z1 (Nat.le_trans FF.out.2.2 h)), FF.out.2.1⟩
        · skip
          refine plan_one rfl rfl (fun K hK => ?_); go_simp
          refine (num_walk n wa26).mono ?_
          rintro e wa30 ⟨rfl, hn, kn⟩
          have d6 := num_cells (B := w1.heap.size) hn kk.size
          refine hK _ _ ⟨SS.out _ (kk.trans (kn.mono (fun b h => Nat.lt_of_lt_of_le h kk.size))), ?_⟩
          clear hK K hn
          try simp only [Act.put]
          have d12 := cells_on d12 kn
          have kk := (kk.trans (kn.mono (fun b h => Nat.lt_of_lt_of_le h kk.size)))
          clear kn
          refine ⟨?_, ?_⟩
          · skip
            refine plan_one rfl rfl (fun K hK => ?_); go_simp
            refine hK _ _ ⟨SS.out _ (kk.alloc _ (fun _ h => Nat.lt_of_lt_of_le h kk.size)), ?_⟩
            clear hK K
            try simp only [Act.put]
            refine plan_world (fun wx => Keep (· < wa30.heap.size) wa30 wx ∧ Cells wx (fun b => w1.heap.size ≤ b) (.slice (some ⟨wa30.heap.size, 0, none⟩) 1 1) (ints .u8 [x])) ⟨(Keep.refl _ _).alloc _ (fun _ h => h), cells_made wa30 5 (fun b => w1.heap.size ≤ b) (ints .u8 [x]) kk.size (by simp [ints])⟩ ?_
            rintro wa31 ⟨kn, d3⟩
            have d6 := cells_on d6 kn
            have d12 := cells_on d12 kn
            have kk := (kk.trans (kn.mono (fun b h => Nat.lt_of_lt_of_le h kk.size)))
            clear kn
            refine plan_one rfl rfl (fun K hK => ?_); go_simp
            refine (num_walk f wa31).mono ?_
            rintro e wa32 ⟨rfl, hn, kn⟩
            have d9 := num_cells (B := w1.heap.size) hn kk.size
            refine hK _ _ ⟨SS.out _ (kk.trans (kn.mono (fun b h => Nat.lt_of_lt_of_le h kk.size))), ?_⟩
            clear hK K hn
            try simp only [Act.put]
            have d3 := cells_on d3 kn
            have d6 := cells_on d6 kn
            have d12 := cells_on d12 kn
            have kk := (kk.trans (kn.mono (fun b h => Nat.lt_of_lt_of_le h kk.size)))
            clear kn
            have kn : Keep (· < wa32.heap.size) wa32 (wa32.alloc (.cells [.slice (some ⟨wa30.heap.size, 0, none⟩) 1 1, .slice (some ⟨wa26.heap.size, 0, none⟩) 8 8, .slice (some ⟨wa31.heap.size, 0, none⟩) 8 8, .slice (some ⟨w1.drew.heap.size, 0, none⟩) text.length cwa26].toArray 32)) := (Keep.refl _ _).alloc _ (fun _ h => h)
            refine plan_one rfl rfl (fun K hK => ?_); go_simp
            refine hK _ _ ⟨SS.out _ (kk.trans (kn.mono (fun b h => Nat.lt_of_lt_of_le h kk.size))), ?_⟩
            clear hK K
            try simp only [Act.put]
            refine plan_world (fun wx => Keep (· < wa32.heap.size) wa32 wx ∧ Cells wx (fun _ => True) (.slice (some ⟨wa32.heap.size, 0, none⟩) 4 4) [.slice (some ⟨wa30.heap.size, 0, none⟩) 1 1, .slice (some ⟨wa26.heap.size, 0, none⟩) 8 8, .slice (some ⟨wa31.heap.size, 0, none⟩) 8 8, .slice (some ⟨w1.drew.heap.size, 0, none⟩) text.length cwa26]) ⟨kn, cells_made wa32 32 (fun _ => True) [.slice (some ⟨wa30.heap.size, 0, none⟩) 1 1, .slice (some ⟨wa26.heap.size, 0, none⟩) 8 8, .slice (some ⟨wa31.heap.size, 0, none⟩) 8 8, .slice (some ⟨w1.drew.heap.size, 0, none⟩) text.length cwa26] trivial (by simp)⟩ ?_
            clear kn
            rintro wx ⟨kn, cx⟩
            have rws : Rws wx (fun b => w1.heap.size ≤ b) [.slice (some ⟨wa30.heap.size, 0, none⟩) 1 1, .slice (some ⟨wa26.heap.size, 0, none⟩) 8 8, .slice (some ⟨wa31.heap.size, 0, none⟩) 8 8, .slice (some ⟨w1.drew.heap.size, 0, none⟩) text.length cwa26] [[x], Sha.be8 (Wr.u64 n), Sha.be8 (Wr.u64 f), text] := Rws.cons (cells_on d3 kn) (Rws.cons (cells_on d6 kn) (Rws.cons (cells_on d9 kn) (Rws.cons (cells_on d12 kn) (Rws.nil _ _))))
            have kk := (kk.trans (kn.mono (fun b h => Nat.lt_of_lt_of_le h kk.size)))
            clear kn d3 d6 d9 d12
            refine plan_one rfl rfl (fun K hK => ?_); go_simp
            refine (concat_walk _ _ _ wx _ _ (by simp [total, be8_len]; omega) cx rws).mono ?_
            rintro e wy ⟨v5, rfl, f5, kn, z5⟩
            refine hK _ _ ⟨SS.out _ (kk.trans (kn.mono (fun b h => Nat.lt_of_lt_of_le h kk.size))), ?_⟩
            clear hK K
            try simp only [Act.put]
            have FF := hid (And.intro f5 (And.intro (kk.trans (kn.mono (fun b h => Nat.lt_of_lt_of_le h kk.size))) kk.size))
            clear f5 kn kk cx rws
            refine plan_last rfl rfl (fun K hK => ?_); go_simp
            refine hK _ _ ?_
            clear hK K
            go_wp2_with fail
            go_meet
            case rel =>
              have e : Wr.reqBytes k n f text = [[x], Sha.be8 (Wr.u64 n), Sha.be8 (Wr.u64 f), text].flatten := by simp [Wr.reqBytes, HXX.out]
              rw [e]
              exact ⟨FF.out.1.cells.mono (fun b h => Nat.lt_of_lt_of_le z1 (Nat.le_trans FF.out.2.2 h)), FF.out.2.1⟩
          · skip
            refine plan_one rfl rfl (fun K hK => ?_); go_simp
            refine (num_walk f wa30).mono ?_
            rintro e wa33 ⟨rfl, hn, kn⟩
            have d9 := num_cells (B := w1.heap.size) hn kk.size
            refine hK _ _ ⟨SS.out _ (kk.trans (kn.mono (fun b h => Nat.lt_of_lt_of_le h kk.size))), ?_⟩
            clear hK K hn
            try simp only [Act.put]
            have d6 := cells_on d6 kn
            have d12 := cells_on d12 kn
            have kk := (kk.trans (kn.mono (fun b h => Nat.lt_of_lt_of_le h kk.size)))
            clear kn
            refine plan_one rfl rfl (fun K hK => ?_); go_simp
            refine hK _ _ ⟨SS.out _ (kk.alloc _ (fun _ h => Nat.lt_of_lt_of_le h kk.size)), ?_⟩
            clear hK K
            try simp only [Act.put]
            refine plan_world (fun wx => Keep (· < wa33.heap.size) wa33 wx ∧ Cells wx (fun b => w1.heap.size ≤ b) (.slice (some ⟨wa33.heap.size, 0, none⟩) 1 1) (ints .u8 [x])) ⟨(Keep.refl _ _).alloc _ (fun _ h => h), cells_made wa33 5 (fun b => w1.heap.size ≤ b) (ints .u8 [x]) kk.size (by simp [ints])⟩ ?_
            rintro wa34 ⟨kn, d3⟩
            have d6 := cells_on d6 kn
            have d9 := cells_on d9 kn
            have d12 := cells_on d12 kn
            have kk := (kk.trans (kn.mono (fun b h => Nat.lt_of_lt_of_le h kk.size)))
            clear kn
            have kn : Keep (· < wa34.heap.size) wa34 (wa34.alloc (.cells [.slice (some ⟨wa33.heap.size, 0, none⟩) 1 1, .slice (some ⟨wa26.heap.size, 0, none⟩) 8 8, .slice (some ⟨wa30.heap.size, 0, none⟩) 8 8, .slice (some ⟨w1.drew.heap.size, 0, none⟩) text.length cwa26].toArray 32)) := (Keep.refl _ _).alloc _ (fun _ h => h)
            refine plan_one rfl rfl (fun K hK => ?_); go_simp
            refine hK _ _ ⟨SS.out _ (kk.trans (kn.mono (fun b h => Nat.lt_of_lt_of_le h kk.size))), ?_⟩
            clear hK K
            try simp only [Act.put]
            refine plan_world (fun wx => Keep (· < wa34.heap.size) wa34 wx ∧ Cells wx (fun _ => True) (.slice (some ⟨wa34.heap.size, 0, none⟩) 4 4) [.slice (some ⟨wa33.heap.size, 0, none⟩) 1 1, .slice (some ⟨wa26.heap.size, 0, none⟩) 8 8, .slice (some ⟨wa30.heap.size, 0, none⟩) 8 8, .slice (some ⟨w1.drew.heap.size, 0, none⟩) text.length cwa26]) ⟨kn, cells_made wa34 32 (fun _ => True) [.slice (some ⟨wa33.heap.size, 0, none⟩) 1 1, .slice (some ⟨wa26.heap.size, 0, none⟩) 8 8, .slice (some ⟨wa30.heap.size, 0, none⟩) 8 8, .slice (some ⟨w1.drew.heap.size, 0, none⟩) text.length cwa26] trivial (by simp)⟩ ?_
            clear kn
            rintro wx ⟨kn, cx⟩
            have rws : Rws wx (fun b => w1.heap.size ≤ b) [.slice (some ⟨wa33.heap.size, 0, none⟩) 1 1, .slice (some ⟨wa26.heap.size, 0, none⟩) 8 8, .slice (some ⟨wa30.heap.size, 0, none⟩) 8 8, .slice (some ⟨w1.drew.heap.size, 0, none⟩) text.length cwa26] [[x], Sha.be8 (Wr.u64 n), Sha.be8 (Wr.u64 f), text] := Rws.cons (cells_on d3 kn) (Rws.cons (cells_on d6 kn) (Rws.cons (cells_on d9 kn) (Rws.cons (cells_on d12 kn) (Rws.nil _ _))))
            have kk := (kk.trans (kn.mono (fun b h => Nat.lt_of_lt_of_le h kk.size)))
            clear kn d3 d6 d9 d12
            refine plan_one rfl rfl (fun K hK => ?_); go_simp
            refine (concat_walk _ _ _ wx _ _ (by simp [total, be8_len]; omega) cx rws).mono ?_
            rintro e wy ⟨v5, rfl, f5, kn, z5⟩
            refine hK _ _ ⟨SS.out _ (kk.trans (kn.mono (fun b h => Nat.lt_of_lt_of_le h kk.size))), ?_⟩
            clear hK K
            try simp only [Act.put]
            have FF := hid (And.intro f5 (And.intro (kk.trans (kn.mono (fun b h => Nat.lt_of_lt_of_le h kk.size))) kk.size))
            clear f5 kn kk cx rws
            refine plan_last rfl rfl (fun K hK => ?_); go_simp
            refine hK _ _ ?_
            clear hK K
            go_wp2_with fail
            go_meet
            case rel =>
              have e : Wr.reqBytes k n f text = [[x], Sha.be8 (Wr.u64 n), Sha.be8 (Wr.u64 f), text].flatten := by simp [Wr.reqBytes, HXX.out]
              rw [e]
              exact ⟨FF.out.1.cells.mono (fun b h => Nat.lt_of_lt_of_le z1 (Nat.le_trans FF.out.2.2 h)), FF.out.2.1⟩
  case rest =>
    obtain ⟨cv, kv⟩ := hcut
    obtain ⟨va, vn, vc, rfl⟩ := cells_form cv
    have hvn : vn = 17 + text.length := by
      obtain ⟨_, _, _, e, h1, _⟩ := id cv
      injection e with _ e2 _
      rw [e2, h1, ints_length, Wr.reqBytes_length]
    obtain ⟨s0, s1, s2, s3⟩ := SS.out wc kv
    have ce := ((K1.out.trans (kv.mono (fun b h => Nat.lt_trans h z1))).cell (x := ⟨11, 0, none⟩) hg).trans HE.out
    have HF := hid (And.intro cv (K1.out.trans (kv.mono (fun b (h : b < w.heap.size) => Nat.lt_trans h z1))))
    have eS : ((bstr text).toList == (ByteArray.mk #[]).toList) = decide (text = []) := bstr_beq (b := []) HX.out (by simp)
    have e0 : (ByteArray.mk #[]).toList = [] := by rw [ByteArray.toList_eq]
    rw [e0] at eS
    clear e0
    obtain ⟨q, hq⟩ : ∃ q, decide (text = []) = q := ⟨_, rfl⟩
    rw [hq] at eS
    have hc : k < 1 ∨ (1 ≤ k ∧ 7 < k) ∨ (1 ≤ k ∧ k ≤ 7 ∧ k ≠ 1 ∧ q = false) ∨ (1 ≤ k ∧ k ≤ 7 ∧ k ≠ 1 ∧ q = true ∧ text.length = 0) ∨ (k = 1 ∧ 16343 < vn) ∨ (k = 1 ∧ vn ≤ 16343) := by
      have h1 : q = false ∨ (q = true ∧ text.length = 0) := by
        cases q with
        | false => exact .inl rfl
        | true => exact .inr ⟨rfl, by rw [of_decide_eq_true hq]; rfl⟩
      by_cases a1 : k < 1
      · exact .inl a1
      by_cases a2 : 7 < k
      · exact .inr (.inl ⟨by omega, a2⟩)
      by_cases a3 : k = 1
      · by_cases a4 : 16343 < vn
        · exact .inr (.inr (.inr (.inr (.inl ⟨a3, a4⟩))))
        · exact .inr (.inr (.inr (.inr (.inr ⟨a3, by omega⟩))))
      rcases h1 with h1 | h1
      · exact .inr (.inr (.inl ⟨by omega, by omega, a3, h1⟩))
      · exact .inr (.inr (.inr (.inl ⟨by omega, by omega, a3, h1⟩)))
    have HQ := hid (And.intro hq hvn)
    clear cv kv hq hvn
    rcases hc with hc | hc | ⟨hc1, hc2, hc3, rfl⟩ | ⟨hc1, hc2, hc3, rfl, hc4⟩ | ⟨rfl, hc⟩ | ⟨rfl, hc⟩
    · have t1 : decide (k < 1) = true := by simp; omega
      have HR := hid (show Wr.reqOk k text = false by
        cases h : Wr.reqOk k text with
        | false => rfl
        | true => have := (Wr.reqOk_iff k text).1 h; omega)
      clear hc eS
      go_wp2_with fail
      go_quiet (fail)
      go_wp2_with fail
      go_ret2
      exact ⟨HF.out.2.drewN _, .inr ⟨HR.out, rfl⟩⟩
    · have t1 : decide (k < 1) = false := by simp; omega
      have t2 : decide (7 < k) = true := by simp; omega
      have HR := hid (show Wr.reqOk k text = false by
        cases h : Wr.reqOk k text with
        | false => rfl
        | true => have := (Wr.reqOk_iff k text).1 h; omega)
      clear hc eS
      go_wp2_with fail
      go_quiet (fail)
      go_wp2_with fail
      go_ret2
      exact ⟨HF.out.2.drewN _, .inr ⟨HR.out, rfl⟩⟩
    · have t1 : decide (k < 1) = false := by simp; omega
      have t2 : decide (7 < k) = false := by simp; omega
      have t3 : (k == 1) = false := by simp; exact hc3
      have t3' : (k != 1) = true := by simp; exact hc3
      have hk1 : ¬ k = 1 := hc3
      have eP : ¬ (bstr text).toList = [] := fun h => by rw [h] at eS; cases eS
      have HR := hid (show Wr.reqOk k text = false by
        cases h : Wr.reqOk k text with
        | false => rfl
        | true =>
          rcases ((Wr.reqOk_iff k text).1 h).2.2.1 with h1 | h1
          · exact absurd h1 hc3
          · have := HQ.out.1
            rw [List.eq_nil_of_length_eq_zero h1] at this
            cases this)
      clear hc1 hc2 hc3
      go_wp2_with fail
      go_quiet (fail)
      go_wp2_with fail
      go_ret2
      exact ⟨HF.out.2.drewN _, .inr ⟨HR.out, rfl⟩⟩
    · have t1 : decide (k < 1) = false := by simp; omega
      have t2 : decide (7 < k) = false := by simp; omega
      have t3 : (k == 1) = false := by simp; exact hc3
      have t3' : (k != 1) = true := by simp; exact hc3
      have hk1 : ¬ k = 1 := hc3
      have eP : (bstr text).toList = [] := by simpa using eS
      have t4 : decide ((16343 : Int) < (vn : Int)) = false := by have := HQ.out.2; simp; omega
      have HR := hid (show Wr.reqOk k text = true from (Wr.reqOk_iff k text).2 ⟨hc1, hc2, .inr hc4, by omega⟩)
      clear hc1 hc2 hc3 hc4
      go_wp2_with fail
      go_ret2
      exact ⟨HF.out.2, .inl ⟨HR.out, _, rfl, HF.out.1⟩⟩
    · have t4 : decide ((16343 : Int) < (vn : Int)) = true := by simp; omega
      have HR := hid (show Wr.reqOk 1 text = false by
        cases h : Wr.reqOk 1 text with
        | false => rfl
        | true => have := (Wr.reqOk_iff 1 text).1 h; have := HQ.out.2; omega)
      clear hc eS
      go_wp2_with fail
      go_quiet (fail)
      go_wp2_with fail
      go_ret2
      exact ⟨HF.out.2.drewN _, .inr ⟨HR.out, rfl⟩⟩
    · have t4 : decide ((16343 : Int) < (vn : Int)) = false := by simp; omega
      have HR := hid (show Wr.reqOk 1 text = true from (Wr.reqOk_iff 1 text).2 ⟨by decide, by decide, .inl rfl, by have := HQ.out.2; omega⟩)
      clear hc eS
      go_wp2_with fail
      go_ret2
      exact ⟨HF.out.2, .inl ⟨HR.out, _, rfl, HF.out.1⟩⟩
end Go.Proofs.YtnpneippahdigaaDoor
