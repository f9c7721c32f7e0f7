/-
  Step by step: 'Sum' of package digest.
-/
import Derived.Test.YtnpneippahdigaaDoorSum
import Derived.Test.YtnpneippahdigaaDoorMem
namespace Go.Proofs.YtnpneippahdigaaDoor
open Go.RowKit Go.Proofs.Mem

/-- what a state holds in a block of its own, whatever else is made meanwhile. -/
theorem StAt.keep {p : Nat → Prop} {w w' : World} {b : Nat} {s : Sha.St} (h : StAt w b s) (k : Keep p w w') (hp : p b) : StAt w' b s := (k.block _ hp).trans h
theorem StAt.lt {w : World} {b : Nat} {s : Sha.St} (h : StAt w b s) : b < w.heap.size := (Array.getElem?_eq_some_iff.1 h).1
theorem zeros_stop (k : Nat) (t : Sha.St) (h : t.n % 64 = 56) : Sha.St.zeros k t = t := by
  cases k with
  | zero => rfl
  | succ k => simp [Sha.St.zeros, h]
theorem zeros_go (k : Nat) (t : Sha.St) (h : t.n % 64 ≠ 56) : Sha.St.zeros (k + 1) t = Sha.St.zeros k (t.put 0) := by
  simp [Sha.St.zeros, h]

/-- the digest's bytes, m of them. -/
def fill (ws : List Nat) : Nat → List Nat
  | 0 => List.replicate 32 0
  | m + 1 => (fill ws m).set m (ws.getD (m / 4) 0 / 2 ^ (24 - 8 * (m % 4)) % 256)
theorem fill_length (ws : List Nat) (m : Nat) : (fill ws m).length = 32 := by
  induction m with
  | zero => simp [fill]
  | succ m ih => simp [fill, ih]
theorem fill_all (ws : List Nat) (h : ws.length = 8) : fill ws 32 = ws.flatMap Sha.be4 := by
  match ws, h with
  | [a, b, c, d, e, f, g, i], _ => simp [fill, Sha.be4, List.replicate]

theorem be8_byte (n j : Nat) (bs : List Nat) (q : Int) (x : Nat) (hb : Sha.be8 n = bs) (hj : j < 8) (hq : q = 56 - 8 * (j : Int)) (hx : bs.getD j 0 = x) : (n : Int) / 2 ^ q.toNat % 256 = (x : Int) := by
  subst hb; subst hx; subst hq
  have hj9 : j = 0 ∨ j = 1 ∨ j = 2 ∨ j = 3 ∨ j = 4 ∨ j = 5 ∨ j = 6 ∨ j = 7 := by omega
  rcases hj9 with rfl | rfl | rfl | rfl | rfl | rfl | rfl | rfl <;> simp [Sha.be8]
theorem be8_lt {n y : Nat} (h : y ∈ Sha.be8 n) : y < 256 := by
  simp only [Sha.be8, List.mem_cons, List.not_mem_nil, or_false] at h
  rcases h with rfl | rfl | rfl | rfl | rfl | rfl | rfl | rfl <;> exact Nat.mod_lt _ (by decide)
theorem take_snoc' (l : List Nat) (j : Nat) (h : j < l.length) : l.take j ++ [l.getD j 0] = l.take (j + 1) := by
  rw [List.take_add_one, List.getD_eq_getElem?_getD, List.getElem?_eq_getElem h]; rfl

set_option maxRecDepth 100000 in
set_option maxHeartbeats 4000000 in
theorem sum_walk (b : Nat) (s : Sha.St) (w : World) (hg : Good s) (hn : s.n < 1152921504606846976) (hT : TurnsAt w) (hb : StAt w b s) : Calls Tryd.prog 102 #[.pointer (some ⟨b, 0, none⟩)] w fun e w' => e = .returned (.agg (ints .u8 s.sum).toArray) ∧ Keep (· < w.heap.size) w w' := by
  have hbs := hb.lt
  have Hb := hid hb
  have HG := hid hg
  have HT := hid hT
  clear hb hg hT
  go_enter Tryd.func102, Tryd.ntmps102
  go_wp2_with fail
  refine calls_world (fun w0 => w0.heap.size = w.heap.size + 1 ∧ Keep (· < w.heap.size) w w0 ∧ w0.heap[w.heap.size]? = some (.cells (ints .u8 (List.replicate 32 0)).toArray 47 (0, 0))) ⟨by simp, (Keep.refl _ _).alloc _ (fun _ h => h), heap_alloc_new w _⟩ ?_
  rintro w0 ⟨z0, k0, R0⟩
  refine (copy_walk b s _ HG.out (Hb.out.keep k0 hbs)).mono ?_
  rintro e w1 ⟨rfl, hK1, hz1, hC1⟩
  rw [z0] at hz1 hC1 ⊢
  simp only [z0] at hK1
  have k1 : Keep (· < w.heap.size) w w1 := k0.trans (hK1.mono (fun k hk => by omega))
  have HR1 := hid ((hK1.block _ (Nat.lt_succ_self _)).trans R0)
  have HC1 := hid hC1
  have Z := hid hz1
  have HK1 := hid k1
  clear hK1 hz1 hC1 k0 R0 k1 z0 w0
  obtain ⟨c, hc⟩ : ∃ c, c = w.heap.size + 1 := ⟨_, rfl⟩
  rw [← hc] at HC1 ⊢
  have hc1 : w.heap.size < c := by omega
  have HCc := hid hc
  clear hc
  have h128 : ∀ x ∈ [128], x < 256 := by decide
  go_wp2_with fail
  refine calls_world (fun w2 => Keep (· < w1.heap.size) w1 w2 ∧ Cells w2 (· ≠ c) (.slice (some ⟨w1.heap.size, 0, none⟩) 1 1) (ints .u8 [128])) ⟨(Keep.refl _ _).alloc _ (fun _ h => h), ?_⟩ ?_
  · exact Cells.of_block (cur := ints .u8 [128]) (off := 0) (heap_alloc_new w1 _) (by rw [Z.out, HCc.out]; simp) (by decide) (Nat.le_refl _) (by decide)
  rintro w2 ⟨k2, s2⟩
  refine (take_walk c s _ [128] w2 HG.out (by simp; omega) h128 ?_ ?_ s2).mono ?_
  · exact (HT.out.keep HK1.out HT.out.lt).keep k2 (HT.out.keep HK1.out HT.out.lt).lt
  · exact HC1.out.keep k2 HC1.out.lt
  rintro e w3 ⟨rfl, k3, h3⟩
  have HS3 := hid h3
  have K3 : Keep (fun k => k < w1.heap.size ∧ k ≠ c) w1 w3 := (k2.mono (fun _ h => h.1)).trans (k3.mono (fun k h => ⟨Nat.lt_of_lt_of_le h.1 k2.size, h.2⟩))
  have HK3 := hid K3
  clear k2 k3 K3 h3 s2 h128 w2
  go_wp2_with fail
  have hT1 : TurnsAt w1 := HT.out.keep HK1.out HT.out.lt
  have HT1 := hid hT1
  have hgc := turns_ne hT1 HC1.out HG.out.1 HG.out.2.1
  have hcz : c < w1.heap.size := by rw [Z.out, HCc.out]; omega
  clear hT1
  go_loopg [] 64 (fun k wr => ∃ t : Sha.St, Good t ∧ Sha.St.zeros k t = Sha.St.zeros 64 (s.put 128) ∧ (120 - t.n % 64) % 64 ≤ k ∧ t.n + k ≤ s.n + 65 ∧ StAt wr c t ∧ Keep (fun k => k < w1.heap.size ∧ k ≠ c) w1 wr)
  case atStart => exact ⟨s.put 128, put_good HG.out (by decide), rfl, by omega, by simp [Sha.St.put], HS3.out, HK3.out⟩
  case round =>
    obtain ⟨t, hgt, hzt, hd, hnt, hct, hkt⟩ := hrel
    have ct : wr.cell? ⟨c, 72, none⟩ = some (.int .u64 (t.n : Int)) := by rw [cell_at hct]; exact st_num hgt.1 hgt.2.1
    have HA := hid (And.intro hgt (And.intro hzt (And.intro hct hkt)))
    clear hgt hzt hct hkt
    obtain ⟨m, hm⟩ : ∃ m, t.n % 64 = m := ⟨_, rfl⟩
    have r1 : (t.n : Int) % 64 = (m : Int) := by omega
    have HM := hid hm
    rw [hm] at hd
    clear hm
    by_cases h56 : m = 56
    · have hb1 : ((m : Int) != 56) = false := by simp; omega
      have H56 := hid h56
      clear h56
      go_wp2_with fail
      obtain ⟨p, hp⟩ : ∃ p, Sha.St.zeros 64 (s.put 128) = p := ⟨_, rfl⟩
      have htp : t = p := by rw [← hp, ← HA.out.2.1, zeros_stop _ _ (by rw [HM.out, H56.out])]
      obtain ⟨hgp, -, hcp, hkp⟩ := HA.out
      rw [htp] at hgp hcp
      have hpn : p.n ≤ s.n + 65 := by rw [← htp]; omega
      have HP := hid hp
      have HGP := hid hgp
      obtain ⟨we, hwe⟩ : ∃ we, we = wr := ⟨_, rfl⟩
      rw [← hwe] at hcp hkp ⊢
      have HCP := hid (And.intro hcp hkp)
      clear HA HM H56 hb1 hp htp hgp hcp hkp hwe ct r1 hd hnt
      obtain ⟨bs, hbs8⟩ : ∃ l, Sha.be8 (8 * s.n) = l := ⟨_, rfl⟩
      have HB8 := hid hbs8
      clear hbs8
      go_loopg [4] 8 (fun k s4 wr => ∃ (j : Nat) (q : Int), j + k = 8 ∧ s4 = .int .i64 q ∧ q = 56 - 8 * (j : Int) ∧ StAt wr c (p.take (bs.take j)) ∧ Keep (fun k => k < w1.heap.size ∧ k ≠ c) w1 wr)
      case atStart => exact ⟨0, 56, rfl, rfl, by omega, HCP.out.1, HCP.out.2⟩
      case round =>
        obtain ⟨j, q, hj, rfl, hq, hct, hkt⟩ := hrel
        have cn : wr.cell? ⟨b, 72, none⟩ = some (.int .u64 (s.n : Int)) := by
          rw [hkt.cell (x := ⟨b, 72, none⟩) (by show b < _ ∧ b ≠ c; omega), HK1.out.cell (x := ⟨b, 72, none⟩) hbs, cell_at Hb.out]; exact st_num HG.out.1 HG.out.2.1
        have HT2 := hid (HT1.out.keep hkt ⟨HT1.out.lt, hgc⟩)
        have HC := hid (And.intro hct hkt)
        obtain ⟨n8, h8⟩ : ∃ m, 8 * s.n = m := ⟨_, rfl⟩
        have e8 : IntKind.u64.wrap (8 * (s.n : Int)) = (n8 : Int) := by rw [IntKind.wrap_u64]; omega
        have HN8 := hid h8
        have HN := hid hn
        clear h8 hn
        clear hct hkt
        by_cases hj8 : j < 8
        · obtain ⟨x, hx⟩ : ∃ x, bs.getD j 0 = x := ⟨_, rfl⟩
          have hval : (n8 : Int) / 2 ^ q.toNat % 256 = (x : Int) := be8_byte n8 j bs q x (by rw [← HN8.out]; exact HB8.out) hj8 hq hx
          have hx256 : x < 256 := by
            have : (x : Int) < 256 := by rw [← hval]; exact Int.emod_lt_of_pos _ (by decide)
            omega
          have HV := hid hval
          have hq0 : 0 ≤ q := by omega
          have hq1 : q ≤ 56 := by omega
          have HQ := hid hq
          have HX := hid hx
          clear hval hx hq
          go_wp2_with fail
          rw [HV.out]
          refine calls_world (fun w2 => Keep (· < wr.heap.size) wr w2 ∧ Cells w2 (· ≠ c) (.slice (some ⟨wr.heap.size, 0, none⟩) 1 1) (ints .u8 [x])) ⟨(Keep.refl _ _).alloc _ (fun _ h => h), ?_⟩ ?_
          · exact Cells.of_block (cur := ints .u8 [x]) (off := 0) (heap_alloc_new wr _) (by have := HC.out.1.lt; omega) (by simp [ints]) (Nat.le_refl _) (by decide)
          rintro w2 ⟨k2, s2⟩
          have kk : Keep (fun k => k < w1.heap.size ∧ k ≠ c) w1 w2 := HC.out.2.trans (k2.mono (fun k h => Nat.lt_of_lt_of_le h.1 HC.out.2.size))
          refine (take_walk c _ _ [x] w2 (take_good HGP.out (fun y hy => be8_lt (by rw [HB8.out] ; exact List.mem_of_mem_take hy))) ?_ (by simpa using hx256) (HT1.out.keep kk ⟨HT1.out.lt, hgc⟩) (HC.out.1.keep k2 HC.out.1.lt) s2).mono ?_
          · rw [Sha.take_n]
            have : (bs.take j).length ≤ 8 := by rw [List.length_take]; omega
            have := HN.out
            simp only [List.length_singleton]
            omega
          rintro e w4 ⟨rfl, k4, h4⟩
          have kf := hid (kk.trans (k4.mono (fun k h => ⟨Nat.lt_of_lt_of_le h.1 kk.size, h.2⟩)))
          have h4' := hid h4
          clear k2 kk k4 h4 s2
          go_wp2_with fail
          go_roundg (gk - 1)
          case measure => omega
          case rel =>
            refine ⟨j + 1, q - 8, by omega, rfl, by have := HQ.out; omega, ?_, kf.out⟩
            have := h4'.out
            rw [← Sha.take_append, ← HX.out] at this
            rwa [take_snoc' bs j (by rw [← HB8.out]; exact hj8)] at this
        · obtain rfl : j = 8 := by omega
          have hqn : q < 0 := by omega
          go_upto_region 10 with fail
          obtain ⟨hcf, hkf⟩ := HC.out
          rw [List.take_of_length_le (by rw [← HB8.out]; exact Nat.le_refl 8)] at hcf
          obtain ⟨P, hP⟩ : ∃ P, p.take bs = P := ⟨_, rfl⟩
          rw [hP] at hcf
          have HPP : Hid (P.ws.flatMap Sha.be4 = s.sum) := by
            rw [← hP, ← HP.out, ← HB8.out]; rfl
          have hPl : P.ws.length = 8 := by
            rw [← hP]
            exact (take_good HGP.out (fun y hy => be8_lt (by rw [HB8.out]; exact hy))).1
          have hPw : ∀ i, P.ws.getD i 0 < 4294967296 := by
            rw [← hP]
            exact (take_good HGP.out (fun y hy => be8_lt (by rw [HB8.out]; exact hy))).2.2.1
          have hR : wr.heap[w.heap.size]? = some (.cells (ints .u8 (List.replicate 32 0)).toArray 47 (0, 0)) := (hkf.block w.heap.size ⟨by omega, by omega⟩).trans HR1.out
          have HPw := hid hPw
          clear hP hPw HT2 HC HP HGP HB8 HCP cn e8 HN8 hq hqn hj HN hpn
          refine wp_world (fun w5 => Keep (· < wr.heap.size) wr w5 ∧ w5.heap[wr.heap.size]? = some (.cells (ints .u8 (List.replicate 32 0)).toArray 47 (0, 0))) ⟨(Keep.refl _ _).alloc _ (fun _ h => h), heap_alloc_new wr _⟩ ?_
          rintro w5 ⟨k5, hO⟩
          obtain ⟨o, ho⟩ : ∃ o, wr.heap.size = o := ⟨_, rfl⟩
          rw [ho] at hO ⊢
          have hco : c < o := by rw [← ho]; exact hcf.lt
          have hkw : Keep (· < w.heap.size) w w5 := (HK1.out.trans (hkf.mono (fun k h => by omega))).trans (k5.mono (fun k h => Nat.lt_of_lt_of_le h (Nat.le_trans HK1.out.size hkf.size)))
          have hR5 := hid ((k5.block _ (by omega)).trans hR)
          have hcr : w5.rangeAt c 0 (ints .u32 P.ws) := by
            have := range_at (w := w5) ((k5.block _ hcf.lt).trans hcf) 0 8
            rwa [List.drop_zero, show (stC P).take 8 = ints .u32 P.ws by unfold stC stCells; rw [List.take_append_of_le_length (by rw [ints_length]; omega), List.take_of_length_le (by rw [ints_length]; omega)]] at this
          have HO := hid hO
          have HKW := hid hkw
          have h8 : (Tryd.prog.info? 188).map (·.size) = some (ints .u32 P.ws).length := by rw [ints_length, hPl]; kernel_rfl
          clear hR hcf hkf k5 hO hkw ho
          go_wp2_with (refine wpList_load_mid rfl 188 (.tmp 40) rfl c 0 rfl (ints .u32 P.ws) _ hcr Tryd.underlying188 rfl h8 ?_)
          clear hcr h8 hj8
          go_loopg [42] 8 (fun k s42 wr => ∃ i : Nat, i + k = 8 ∧ s42 = .int .i64 (i : Int) ∧ wr.heap[o]? = some (.cells (ints .u8 (fill P.ws (4 * i))).toArray 47 (0, 0)) ∧ Keep (· < o) w5 wr)
          case atStart => exact ⟨0, rfl, rfl, HO.out, Keep.refl _ _⟩
          case round =>
            obtain ⟨i, hi, rfl, ho, hko⟩ := hrel
            have HO2 := hid (And.intro ho hko)
            clear ho hko
            by_cases hi8 : i < 8
            · obtain ⟨x, hx⟩ : ∃ x, P.ws.getD i 0 = x := ⟨_, rfl⟩
              have ix := fun w0 => index_agg (P := Tryd.prog) 188 142 8 .u32 Tryd.underlying188 Tryd.underlying142 (by kernel_rfl) w0 (ints .u32 P.ws) i (.int .u32 (x : Int)) hi8 (by rw [← hx]; exact ints_get _ _ _ (by omega))
              have hxl : x < 4294967296 := hx ▸ HPw.out i
              have HX := hid hx
              clear hx
              go_wp2_with fail
              clear ix
              obtain ⟨wo, rfl⟩ : ∃ wo : World, wo = wr := ⟨_, rfl⟩
              obtain ⟨g1, rfl⟩ : ∃ g1 : Nat, g1 = gk := ⟨_, rfl⟩
              go_loopg [46] 4 (fun k s46 wr => ∃ q : Nat, q + k = 4 ∧ s46 = .int .i64 (q : Int) ∧ wr.heap[o]? = some (.cells (ints .u8 (fill P.ws (4 * i + q))).toArray 47 (0, 0)) ∧ Keep (· < o) w5 wr)
              case atStart => exact ⟨0, rfl, rfl, HO2.out.1, HO2.out.2⟩
              case round =>
                obtain ⟨y, hy, rfl, ho, hko⟩ := hrel
                by_cases hy4 : y < 4
                · have cf := frozen_at ho (4 * i + y)
                  obtain ⟨old, co⟩ : ∃ v, wr.cell? ⟨o, 4 * i + y, none⟩ = some v := ⟨_, by rw [cell_at ho, ints_get _ _ _ (by rw [fill_length]; omega)]⟩
                  have HO3 := hid (And.intro ho hko)
                  have b0 : (0 : Int) ≤ 4 * (i : Int) + (y : Int) := by omega
                  have b1 : 4 * (i : Int) + (y : Int) < 32 := by omega
                  have b2 : (4 * (i : Int) + (y : Int)).toNat = 4 * i + y := by omega
                  have b3 : (0 : Int) ≤ 24 - 8 * (y : Int) := by omega
                  have b4 : 24 - 8 * (y : Int) < 32 := by omega
                  clear ho hko
                  go_wp2_with fail
                  go_roundg (gk - 1)
                  case measure => omega
                  case rel =>
                    refine ⟨y + 1, by omega, by go_num, ?_, HO3.out.2.setCell _ (by simp)⟩
                    rw [set_at HO3.out.1]
                    have e : ((x : Int) / 2 ^ (24 - 8 * y) % 256) = ((P.ws.getD ((4 * i + y) / 4) 0 / 2 ^ (24 - 8 * ((4 * i + y) % 4)) % 256 : Nat) : Int) := by
                      rw [show (4 * i + y) / 4 = i by omega, show (4 * i + y) % 4 = y by omega, HX.out]
                      push_cast; rfl
                    rw [e]
                    exact congrArg (fun l : List Value => some (Obj.cells l.toArray _ _)) (ints_set .u8 (fill P.ws (4 * i + y)) (4 * i + y) _)
                · obtain rfl : y = 4 := by omega
                  go_wp2_with fail
                  go_roundg (g1 - 1)
                  case measure => omega
                  case rel => exact ⟨i + 1, by omega, by go_num, ho, hko⟩
            · obtain rfl : i = 8 := by omega
              obtain ⟨F, hF⟩ : ∃ F, fill P.ws (4 * 8) = F := ⟨_, rfl⟩
              have hFl : F.length = 32 := by rw [← hF, fill_length]
              have hFs : F = s.sum := by rw [← hF, ← HPP.out]; exact fill_all P.ws hPl
              obtain ⟨ho, hko⟩ := HO2.out
              rw [hF] at ho
              have hR6 : wr.heap[w.heap.size]? = some (.cells (ints .u8 (List.replicate 32 0)).toArray 47 (0, 0)) := (hko.block _ (by show _ < o; omega)).trans hR5.out
              have hi32 : (Tryd.prog.info? 47).map (·.size) = some (ints .u8 F).toArray.size := by rw [List.size_toArray, ints_length, hFl]; kernel_rfl
              have hold : (ints .u8 (List.replicate 32 0)).toArray.size = (ints .u8 F).toArray.size := by simp [ints_length, hFl]
              have hone : (ints .u8 F).toArray.all (·.oneCell') = true := by rw [Array.all_eq_true_iff_forall_mem]; intro v hv; exact ints_one _ _ v (by simpa using hv)
              have HF := hid (And.intro ho (And.intro hko (And.intro hR6 hFs)))
              clear HO2 ho hko hR6 hF hFs hi hi8 hFl
              go_wp2_with (first | (refine wpList_load_row rfl 47 (.tmp 5) rfl o rfl 47 _ (0, 0) _ HF.out.1 Tryd.underlying47 rfl hi32 ?_) | (refine wpList_store_row rfl 47 (.tmp 2) (.tmp 62) rfl w.heap.size (ints .u8 F).toArray rfl rfl 47 _ HF.out.2.2.1 hi32 hold hone ?_))
              refine bodyPost_ret (v := .agg (ints .u8 F).toArray) (results_cell_row rfl _ _ w.heap.size 47 _ (0, 0) _ rfl (heap_setRow HF.out.2.2.1 _) Tryd.underlying47 rfl hi32) rfl ?_
              refine ⟨by rw [HF.out.2.2.2], ?_⟩
              exact (HKW.out.trans (HF.out.2.1.mono (fun k h => by omega))).setRow _ (by simp)
    · have hb1 : ((m : Int) != 56) = true := by simp; omega
      have H56 := hid h56
      clear h56
      go_wp2_with fail
      refine calls_world (fun w2 => Keep (· < wr.heap.size) wr w2 ∧ Cells w2 (· ≠ c) (.slice (some ⟨wr.heap.size, 0, none⟩) 1 1) (ints .u8 [0])) ⟨(Keep.refl _ _).alloc _ (fun _ h => h), ?_⟩ ?_
      · exact Cells.of_block (cur := ints .u8 [0]) (off := 0) (heap_alloc_new wr _) (by have := HA.out.2.2.1.lt; omega) (by decide) (Nat.le_refl _) (by decide)
      rintro w2 ⟨k2, s2⟩
      have kk : Keep (fun k => k < w1.heap.size ∧ k ≠ c) w1 w2 := HA.out.2.2.2.trans (k2.mono (fun k h => Nat.lt_of_lt_of_le h.1 HA.out.2.2.2.size))
      refine (take_walk c t _ [0] w2 HA.out.1 (by simp; omega) (by decide) (HT1.out.keep kk ⟨HT1.out.lt, hgc⟩) (HA.out.2.2.1.keep k2 HA.out.2.2.1.lt) s2).mono ?_
      rintro e w4 ⟨rfl, k4, h4⟩
      have kf := hid (kk.trans (k4.mono (fun k h => ⟨Nat.lt_of_lt_of_le h.1 kk.size, h.2⟩)))
      have h4' := hid h4
      clear k2 kk k4 h4 s2
      go_wp2_with fail
      go_roundg (gk - 1)
      case measure => have := HM.out; have := H56.out; omega
      case rel =>
        have hm := HM.out
        have h56 := H56.out
        obtain ⟨gk', rfl⟩ : ∃ g, gk = g + 1 := ⟨gk - 1, by omega⟩
        refine ⟨t.put 0, put_good HA.out.1 (by decide), ?_, ?_, ?_, h4'.out, kf.out⟩
        · rw [← HA.out.2.1, zeros_go _ _ (by omega)]; rfl
        · simp only [Sha.St.put]; omega
        · simp only [Sha.St.put]; omega
end Go.Proofs.YtnpneippahdigaaDoor
