/-
  Step by step: the bytes of a frame that the statement 'WireOpens' sends.
-/
import Derived.Test.YtnpneippahdigaaDoorWireU
import Derived.Test.YtnpneippahdigaaDoorWireE
namespace Go.Proofs.YtnpneippahdigaaDoor
open Go.RowKit Go.Proofs.Mem Go.Proofs.Txt

/-- the cells of a statement's 'Send'. -/
def sdC (t k q : Int) (bv : Value) (sp : Int) : List Value := [.int .i64 t, .int .i64 k, .int .i64 q, bv, .int .i64 sp]

attribute [local go_sem] min2_ints min_of_two
theorem mask255 (n : Int) : ∃ q : Nat, bits .and .i64 n 255 = (q : Int) ∧ q ≤ 255 := by
  refine ⟨(BitVec.ofInt 64 n).toNat &&& 255, ?_, Nat.and_le_right⟩
  show IntKind.i64.wrap ((BitVec.ofInt 64 n &&& BitVec.ofInt 64 255).toNat : Int) = _
  rw [BitVec.toNat_and]
  have h : (BitVec.ofInt 64 255).toNat = 255 := by decide
  rw [h]
  have h2 : (BitVec.ofInt 64 n).toNat &&& 255 ≤ 255 := Nat.and_le_right
  exact i64_nat _ (by omega)
theorem _root_.Go.Proofs.Mem.Cells.take {w : World} {p : Nat → Prop} {a : Option Addr} {n c : Nat} {cs : List Value} (h : Cells w p (.slice a n c) cs) (m : Nat) (hm : m ≤ cs.length) : Cells w p (.slice a m c) (cs.take m) := by
  obtain ⟨a', n', c', e, h1, h2, h3, h4⟩ := h
  cases e
  have hl : (cs.take m).length = m := by rw [List.length_take]; omega
  refine ⟨a, m, c, rfl, hl.symm, by omega, h3, fun h0 => ?_⟩
  obtain ⟨blk, off, rfl, hp, hc⟩ := h4 (by omega)
  exact ⟨blk, off, rfl, hp, fun i hi => by rw [hc i (by omega), List.getElem?_take, if_pos hi]⟩
def wrongKey : List Nat := [97, 32, 119, 114, 111, 110, 103, 32, 107, 101, 121]

/-- what is sent: bytes of some frame's length. -/
def SentSaid (w : World) (e : Ending) (w' : World) : Prop :=
  ∃ v b, e = .returned v ∧ (∀ x ∈ b, x < 256) ∧ (41 ≤ b.length ∧ b.length ≤ 341) ∧ Cells w' (fun k => w.heap.size ≤ k) v (ints .u8 b) ∧ Keep (· < w.heap.size) w w'

set_option maxRecDepth 100000 in
set_option maxHeartbeats 4000000 in
theorem sent_walk (t k q sp : Int) (bv : Value) (body : List Nat) (hb U : Nat) (a : Option Addr) (L c lb : Nat) (keys : List (List Nat)) (w : World) (p : Nat → Prop) (hkb : ∀ k ∈ keys, (∀ x ∈ k, x < 256) ∧ k.length ≤ 64) (hkl : keys.length = L) (hLc : L ≤ c ∧ c ≤ 9223372036854775807) (hbx : ∀ x ∈ body, x < 256) (hW : WordsIn w hb U) (hK : KeysAt w a L lb keys) (hv : Cells w p bv (ints .u8 body)) (hk : k ≤ 9223372036854775807) :
    Calls Tryd.prog 40 #[.agg (sdC t k q bv sp).toArray, .pointer (some ⟨hb, 0, none⟩), .slice a L c] w (SentSaid w) := by
  have HW := hid hW
  have HK := hid hK
  have HKB := hid hkb
  have HKL := hid hkl
  have HBX := hid hbx
  have HV := hid (hv.lt.mono (q := fun b => b < w.heap.size) (fun _ h => h.1))
  obtain ⟨ba, bn, bc, rfl⟩ := cells_form hv
  have hbn : bn = body.length ∧ bn ≤ bc ∧ bc ≤ 9223372036854775807 := by
    obtain ⟨_, _, _, e, h1, h2, h3, _⟩ := id hv
    injection e with _ e2 e3
    rw [e2, e3, h1, ints_length]
    rw [h1, ints_length] at h2
    exact ⟨rfl, h2, by simpa [maxLen] using h3⟩
  have HBN := hid hbn.1
  have hbn1 := hbn.2.1
  have hbn2 := hbn.2.2
  have hL1 := hLc.1
  have hL2 := hLc.2
  have kc := fun (w : World) (C : Array Value) (n c : Nat) => Lib.run_convert_bytes_const (P := Tryd.prog) w 32 5 C n c Tryd.underlying32 Tryd.underlying5
  have kc2 := fun (w : World) (o : Obj) (C : Array Value) (n c : Nat) => Lib.run_convert_bytes_const (P := Tryd.prog) (w.alloc o) 32 5 C n c Tryd.underlying32 Tryd.underlying5
  simp only [World.size_alloc] at kc2
  clear hW hK hkb hkl hbx hv hbn hLc
  go_enter Tryd.func40, Tryd.ntmps40
  go_upto_region 2 with fail
  refine wp_world (fun w1 => (Keep (· < w.heap.size) w w1 ∧ w.heap.size + 1 < w1.heap.size) ∧ w1.heap[w.heap.size]? = some (.cells (sdC t k q (.slice ba bn bc) sp).toArray 80 (0, 0)) ∧ Cells w1 (fun b => b = w.heap.size + 1) (.slice (some ⟨w.heap.size + 1, 0, none⟩) 11 11) (ints .u8 wrongKey)) ?h1 ?_
  case h1 =>
    refine ⟨⟨((Keep.refl _ _).alloc _ (fun _ h => h)).alloc _ (fun k h => by simp; omega), by simp⟩, (Below.heap_alloc _ _ _ (by simp)).trans (heap_alloc_new w _), ?_⟩
    exact Cells.of_block (cur := ints .u8 wrongKey) (off := 0) (heap_alloc2_new w _ _) rfl (by decide) (Nat.le_refl _) (by decide)
  rintro w1 ⟨⟨k1, z1⟩, S1, c1⟩
  have z1' : w.heap.size < w1.heap.size := by omega
  have H1 := hid (And.intro k1 (And.intro S1 c1))
  have SS := hid (show ∀ wx : World, Keep (· < w1.heap.size) w1 wx → wx.cell? ⟨w.heap.size, 0, none⟩ = some (.int .i64 t) ∧ wx.cell? ⟨w.heap.size, 1, none⟩ = some (.int .i64 k) ∧ wx.cell? ⟨w.heap.size, 2, none⟩ = some (.int .i64 q) ∧ wx.cell? ⟨w.heap.size, 3, none⟩ = some (.slice ba bn bc) ∧ wx.cell? ⟨w.heap.size, 4, none⟩ = some (.int .i64 sp) from fun wx kx => by
    have h := (kx.block _ z1').trans S1
    exact ⟨cell_at h 0, cell_at h 1, cell_at h 2, cell_at h 3, cell_at h 4⟩)
  clear k1 S1 c1 kc kc2
  obtain ⟨s0, s1, s2, s3, s4⟩ := SS.out w1 (Keep.refl _ _)
  have hcase : k < 0 ∨ (0 ≤ k ∧ (L : Int) ≤ k) ∨ ∃ i : Nat, k = (i : Int) ∧ i < L := by
    by_cases h0 : k < 0
    · exact .inl h0
    · by_cases h1 : (L : Int) ≤ k
      · exact .inr (.inl ⟨by omega, h1⟩)
      · exact .inr (.inr ⟨k.toNat, by omega, by omega⟩)
  have WK := hid (show ∀ wx : World, Keep (· < w1.heap.size) w1 wx → Cells wx (fun _ => True) (.slice (some ⟨w.heap.size + 1, 0, none⟩) 11 11) (ints .u8 wrongKey) from fun wx kx => (H1.out.2.2.keep kx (fun b (hb : b = w.heap.size + 1) => by omega)).mono (fun _ _ => trivial))
  rcases hcase with h0 | ⟨h0, h1⟩ | ⟨i, rfl, hi⟩
  case' inl =>
    have t1 : decide (0 ≤ k) = false := by simp; omega
    clear h0
    go_upto_region 4 with fail
    obtain ⟨key, hkey, hkx, hkl⟩ : ∃ key : List Nat, Hid (∀ wx : World, Keep (· < w1.heap.size) w1 wx → Cells wx (fun _ => True) (.slice (some ⟨w.heap.size + 1, 0, none⟩) 11 11) (ints .u8 key)) ∧ Hid (∀ x ∈ key, x < 256) ∧ key.length ≤ 64 := ⟨wrongKey, WK, hid (by decide), by decide⟩
    clear t1
  case' inr.inl =>
    have t1 : decide (0 ≤ k) = true := by simp; omega
    have t2 : decide (k < (L : Int)) = false := by simp; omega
    clear h0 h1
    go_upto_region 4 with fail
    obtain ⟨key, hkey, hkx, hkl⟩ : ∃ key : List Nat, Hid (∀ wx : World, Keep (· < w1.heap.size) w1 wx → Cells wx (fun _ => True) (.slice (some ⟨w.heap.size + 1, 0, none⟩) 11 11) (ints .u8 key)) ∧ Hid (∀ x ∈ key, x < 256) ∧ key.length ≤ 64 := ⟨wrongKey, WK, hid (by decide), by decide⟩
    clear t1 t2
  case' inr.inr =>
    have t1 : decide ((0 : Int) ≤ (i : Int)) = true := by simp
    have t2 : decide ((i : Int) < (L : Int)) = true := by simp; omega
    have l0 : (i : Int) < (L : Int) := by omega
    obtain ⟨kb, ko, kv, rfl, hkb', ckv, hkv⟩ := HK.out i hi
    obtain ⟨kva, kvn, kvc, rfl⟩ := cells_form hkv
    have ck1 : w1.cell? ⟨kb, ko + i, none⟩ = some (.slice kva kvn kvc) := (H1.out.1.cell (x := ⟨kb, ko + i, none⟩) hkb'.1).trans ckv
    have hmem : keys.getD i [] ∈ keys := by
      rw [List.getD_eq_getElem?_getD, List.getElem?_eq_getElem (by rw [HKL.out]; exact hi)]
      exact List.getElem_mem _
    have hm := HKB.out _ hmem
    obtain ⟨key, hkey, hkx, hkl⟩ : ∃ key : List Nat, Hid (∀ wx : World, Keep (· < w1.heap.size) w1 wx → Cells wx (fun _ => True) (.slice kva kvn kvc) (ints .u8 key)) ∧ Hid (∀ x ∈ key, x < 256) ∧ key.length ≤ 64 := ⟨keys.getD i [], hid (fun wx kx => (hkv.keep (H1.out.1.trans (kx.mono (fun b h => by omega))) (fun b h => h.1)).mono (fun _ _ => trivial)), hid hm.1, hm.2⟩
    clear ckv hkv hmem hm
    go_upto_region 4 with fail
    clear t1 t2 l0 ck1
  all_goals
    obtain ⟨qt, hqt, hqtl⟩ := mask255 t
    obtain ⟨qs, hqs, hqsl⟩ := mask40 q
    have HQT := hid (And.intro hqt hqs)
    clear hqt hqs
    go_quiet (fail)
    try rw [HQT.out.1]
    try rw [HQT.out.2]
    obtain ⟨m, hm⟩ : ∃ m, min bn 300 = m := ⟨_, rfl⟩
    have m1 : (if (300 : Int) < (bn : Int) then (300 : Int) else (bn : Int)) = (m : Int) := by split <;> omega
    have m2 : (if 300 < bn then (300 : Int) else (bn : Int)) = (m : Int) := by split <;> omega
    have hmb : m ≤ bc := by omega
    have hm300 : m ≤ 300 := by omega
    have hmn : m ≤ bn := by omega
    have HMM := hid hm
    clear hm
    go_upto_region 6 with fail
    have kq : Keep (· < w1.heap.size) w1 (w1.drewN nq) := (Keep.refl _ _).drewN nq
    obtain ⟨w2, hw2⟩ : ∃ w2, w1.drewN nq = w2 := ⟨_, rfl⟩
    rw [hw2] at kq ⊢
    have z12 := kq.size
    have kw2 : Keep (· < w.heap.size) w w2 := H1.out.1.trans (kq.mono (fun b h => by omega))
    have cb2 : Cells w2 (fun b => b < w.heap.size) (.slice ba m bc) (ints .u8 (body.take m)) := by
      rw [← ints_take]
      exact (HV.out.keep kw2 (fun _ h => h)).take m (by rw [ints_length, ← HBN.out]; exact hmn)
    have H2 := hid (And.intro kw2 (And.intro kq cb2))
    have hbl : (body.take m).length = m := by rw [List.length_take, ← HBN.out]; omega
    have HBL := hid hbl
    clear kq kw2 cb2 hbl hw2 s0 s1 s2 s3 s4 m1 m2
    go_wp2_with fail
    refine (rsigned_walk (qt : Int) (qs : Int) _ (body.take m) w2 _ (by rw [HBL.out]; omega) H2.out.2.2).mono ?_
    rintro e w3 ⟨sv, rfl, f3, k3, _⟩
    have kw3 := H2.out.1.trans (k3.mono (fun b h => Nat.lt_of_lt_of_le h H2.out.1.size))
    have H3 := hid (And.intro kw3 (And.intro (H2.out.2.1.trans (k3.mono (fun b h => Nat.lt_of_lt_of_le h z12))) (And.intro f3.cells (H2.out.2.2.keep k3 (fun b h => Nat.lt_of_lt_of_le h H2.out.1.size)))))
    have z3 := k3.size
    clear k3 kw3 f3
    go_wp2_with fail
    refine (reftag_walk hb _ _ key (Wr.signed (qt : Int) (qs : Int) (body.take m)) w3 _ _ (by omega) (by rw [Wr.signed_length, HBL.out]; omega) hkx.out (Wr.signed_lt _ _ _ (fun x hx => HBX.out x (List.mem_of_mem_take hx))) (HW.out.keep H3.out.1 (fun j _ hj => by obtain ⟨_, _, _, _, _, _, _, _, h7⟩ := HW.out; omega)).at_ (hkey.out w3 H3.out.2.1) H3.out.2.2.1).mono ?_
    rintro e w4 ⟨gv, rfl, k4, cg⟩
    obtain ⟨ga, gn, gc, rfl⟩ := cells_form cg
    obtain ⟨D, hD⟩ : ∃ D, Sha.tag key (Wr.signed (qt : Int) (qs : Int) (body.take m)) = D := ⟨_, rfl⟩
    have hDb : ∀ x ∈ D, x < 256 := by rw [← hD]; exact tag_lt
    have hDl : D.length = 32 := by rw [← hD]; exact tag_length hkx.out
    rw [hD] at cg
    have HD := hid (And.intro hDb hDl)
    have H4 := hid (And.intro (H3.out.1.trans (k4.mono (fun b h => Nat.lt_of_lt_of_le h H3.out.1.size))) (And.intro cg (And.intro (H3.out.2.2.2.keep k4 (fun b h => Nat.lt_of_lt_of_le h H3.out.1.size)) (H3.out.2.1.trans (k4.mono (fun b h => Nat.lt_of_lt_of_le h (Nat.le_trans z12 z3)))))))
    have z4 := Nat.le_trans (Nat.le_trans z12 z3) k4.size
    clear k4 cg hD hDb hDl H3
    have bd := rbuild_frame (qt : Int) (qs : Int) ga ba gn gc m bc
    have BD := hid bd
    clear bd
    go_wp2_with ((with_reducible refine wpList_bld rfl 83 [(0, .tmp 42), (1, .tmp 43), (2, .tmp 50), (3, .tmp 51)] rfl (.agg (rfC (qt : Int) (qs : Int) (.slice ga gn gc) (.slice ba m bc)).toArray) ?hr ?_); case hr => exact BD.out _)
    refine (rbytes_walk (qt : Int) (qs : Int) _ _ D (body.take m) w4 _ _ HD.out.2 (by rw [HBL.out]; omega) H4.out.2.1 H4.out.2.2.1).mono ?_
    rintro e w5 ⟨v5, rfl, f5, k5, _⟩
    have hbl := Wr.bytes_length (qt : Int) (qs : Int) D (body.take m)
    rw [HD.out.2, HBL.out] at hbl
    have hbb := Wr.bytes_lt (qt : Int) (qs : Int) D (body.take m) HD.out.1 (fun x hx => HBX.out x (List.mem_of_mem_take hx))
    obtain ⟨b, hb5⟩ : ∃ b, Wr.bytes (qt : Int) (qs : Int) D (body.take m) = b := ⟨_, rfl⟩
    rw [hb5] at f5 hbl hbb
    obtain ⟨g5, c5, rfl, hc1, hc2, hg5, hcell, hfr⟩ := f5.row.blk (by rw [ints_length]; omega)
    rw [ints_length] at hc1 hcell ⊢
    obtain ⟨n5, hn5⟩ : ∃ n, b.length = n := ⟨_, rfl⟩
    rw [ints_length, hn5] at f5
    have H5 := hid (And.intro (H4.out.1.trans (k5.mono (fun b h => Nat.lt_of_lt_of_le h H4.out.1.size))) (And.intro f5 (And.intro hcell (And.intro hbb hn5))))
    have HFR := hid hfr
    have zg : w.heap.size ≤ g5 := Nat.le_trans H4.out.1.size (f5.own g5 rfl)
    have hn41 : n5 = 41 + m := by omega
    have HN5 := hid hn41
    have hn0 : 0 < n5 := by omega
    have hn342 : n5 ≤ 341 := by omega
    rw [hn5] at hc1 ⊢
    have k15 := H4.out.2.2.2.trans (k5.mono (fun b h => Nat.lt_of_lt_of_le h z4))
    have sp5 := (SS.out w5 k15).2.2.2.2
    have zw4 := H4.out.1.size
    clear k5 k15 f5 hcell hbb hn5 hbl hb5 hfr hn41 H4
    by_cases hsp : 0 < sp
    · have t1 : decide (0 < sp) = true := by simp; omega
      obtain ⟨i5, hi5⟩ : ∃ i : Nat, sp % (n5 : Int) = (i : Int) := ⟨(sp % (n5 : Int)).toNat, by have := Int.emod_nonneg sp (show (n5 : Int) ≠ 0 by omega); omega⟩
      have hi5l : i5 < n5 := by have := Int.emod_lt_of_pos sp (show (0 : Int) < (n5 : Int) by omega); omega
      have hi5t : sp.tmod (n5 : Int) = (i5 : Int) := by rw [← hi5]; exact Int.tmod_eq_emod_of_nonneg (by omega)
      have l5 : (i5 : Int) < (n5 : Int) := by omega
      have nz : ¬ n5 = 0 := by omega
      have nz2 : ¬ (n5 : Int) = 0 := by omega
      obtain ⟨x5, hx5⟩ : ∃ x, b.getD i5 0 = x := ⟨_, rfl⟩
      have cx : w5.cell? ⟨g5, i5, none⟩ = some (.int .u8 (x5 : Int)) := by
        rw [H5.out.2.2.1 i5 (by rw [H5.out.2.2.2.2]; exact hi5l), ints_get _ _ _ (by rw [H5.out.2.2.2.2]; exact hi5l), hx5]
      have fx := HFR.out i5
      obtain ⟨r5, hr5, hr5l⟩ := xor_u8 (x5 : Int) 1
      have HX5 := hid hx5
      have HI5 := hid hi5
      clear hx5 hi5
      go_wp2_with fail
      try rw [hr5]
      have hset := H5.out.2.1.row.set i5 (by rw [ints_length, H5.out.2.2.2.2]; exact hi5l) (.int .u8 (r5 : Int))
      rw [ints_set] at hset
      have kset : Keep (· < w.heap.size) w (w5.setCell ⟨g5, i5, none⟩ (.int .u8 (r5 : Int))) := H5.out.1.setCell _ (by show ¬ g5 < w.heap.size; omega)
      go_ret
      refine ⟨_, b.set i5 r5, rfl, ?_, ?_, hset.cells.mono (fun k hk => by have : g5 = k := Option.some.inj hk; omega), kset⟩
      · intro x hx
        rcases List.mem_or_eq_of_mem_set hx with h | h
        · exact H5.out.2.2.2.1 x h
        · omega
      · rw [List.length_set, H5.out.2.2.2.2]; have := HN5.out; omega
    · have t1 : decide (0 < sp) = false := by simp; omega
      clear hsp
      go_wp2_with fail
      go_ret
      exact ⟨_, b, rfl, H5.out.2.2.2.1, by have := HN5.out; rw [H5.out.2.2.2.2]; omega, H5.out.2.1.cells.mono (fun _ h => Nat.le_trans zw4 h), H5.out.1⟩
end Go.Proofs.YtnpneippahdigaaDoor
