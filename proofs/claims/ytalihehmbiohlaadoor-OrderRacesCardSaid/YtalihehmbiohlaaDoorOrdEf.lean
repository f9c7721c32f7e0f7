/-
  Step by step: Races of the document's answer of layer 18.
-/
import Derived.Test.YtalihehmbiohlaaDoorOrdEe
namespace Go.Proofs.Ord
theorem found_noacc {rooms : List Int} {l : List Ev} {j : Nat} (h : (evAt l j).acc = false) : foundL rooms l (j + 1) = foundL rooms l j := by
  show (if (evAt l j).acc && !(cand rooms l j).isEmpty && _ then _ else foundL rooms l j) = _
  rw [h]; rfl
theorem found_dup {rooms : List Int} {l : List Ev} {j : Nat} (h : (foundL rooms l j).any (fun r => r.pl == (evAt l j).obj) = true) : foundL rooms l (j + 1) = foundL rooms l j := by
  show (if (evAt l j).acc && !(cand rooms l j).isEmpty && (foundL rooms l j).all (fun r => r.pl != (evAt l j).obj) then _ else foundL rooms l j) = _
  have : (foundL rooms l j).all (fun r => r.pl != (evAt l j).obj) = false := by
    rw [List.any_eq_true] at h
    obtain ⟨r, hr, he⟩ := h
    rw [← Bool.not_eq_true, List.all_eq_true]
    intro hh
    have := hh r hr
    simp [eq_of_beq he] at this
  rw [this]; simp
theorem fst_acc {rooms : List Int} {l : List Ev} {j : Nat} : ∀ {n b : Nat}, fstB rooms l j n = some b → b < n ∧ (evAt l b).acc = true := by
  intro n
  induction n with
  | zero => intro b h; cases h
  | succ n ih =>
    intro b h
    unfold fstB at h
    split at h
    · next hc =>
      have ha : (evAt l n).acc = true := (Bool.and_eq_true _ _ ▸ (Bool.and_eq_true _ _ ▸ hc).1).1
      split at h
      · cases h; exact ⟨by omega, ha⟩
      · next b0 hb0 =>
        split at h
        · cases h; exact ⟨by omega, ha⟩
        · cases h; have := ih hb0; exact ⟨by omega, this.2⟩
    · have := ih h; exact ⟨by omega, this.2⟩
/-- is the earlier event one of those that race? -/
def czB (rooms : List Int) (l : List Ev) (j i : Nat) : Bool := (evAt l i).acc && ((evAt l i).obj == (evAt l j).obj) && races rooms l j i
theorem fst_no {rooms : List Int} {l : List Ev} {j i : Nat} (h : czB rooms l j i = false) : fstB rooms l j (i + 1) = fstB rooms l j i := by
  show (if czB rooms l j i then _ else _) = _
  rw [h]; rfl
theorem fst_new {rooms : List Int} {l : List Ev} {j i : Nat} (h : czB rooms l j i = true) (hn : fstB rooms l j i = none) : fstB rooms l j (i + 1) = some i := by
  show (if czB rooms l j i then _ else _) = _
  rw [h, hn]; rfl
theorem fst_old {rooms : List Int} {l : List Ev} {j i b : Nat} (h : czB rooms l j i = true) (hn : fstB rooms l j i = some b) : fstB rooms l j (i + 1) = if better l b i then some i else some b := by
  show (if czB rooms l j i then _ else _) = _
  rw [h, hn]; rfl
theorem cz_eq {rooms : List Int} {l : List Ev} {j i : Nat} {g kd ob a g' kd' ob' a' : Int} (hij : i < j) (he : evAt l j = ⟨g, kd, ob, a⟩) (he' : evAt l i = ⟨g', kd', ob', a'⟩) :
    czB rooms l j i = (((kd' == 1 || kd' == 2) && (ob' == ob)) && ((g' != g) && (kd' == 2 || kd == 2) && !hbB rooms l j i)) := by
  unfold czB races hbB Ev.acc Ev.wr
  rw [he, he', decide_eq_true hij, Bool.true_and]
end Go.Proofs.Ord
namespace Go.Proofs.YtalihehmbiohlaaDoor
open Go.RowKit Go.Maps Go.Proofs.Mem Go.Proofs.Txt Go.Proofs.Ord Go.Proofs.Mp

theorem bool_zero (w : World) : (zeroValue 4).run Tryd.prog w = .ok (.bool false) w := by kernel_rfl
set_option maxRecDepth 1000000 in
set_option maxHeartbeats 8000000 in
/-- an event, its box made. -/
theorem rf_a {s5 s2 s3 s4 s9 s10 s11 s12 s13 s14 s15 s16 s17 s19 s20 s21 s22 s23 s24 s25 s26 s27 s28 s29 s30 s31 s32 s33 s34 s35 s36 s37 s38 s39 s40 s41 s42 s43 s44 s45 s46 s47 s48 s49 s50 s51 s52 s53 s54 s55 s56 s57 s58 s59 s60 s61 s62 s63 s64 s65 s66 s67 s68 s69 s70 s71 s72 s73 s74 s75 s76 s77 s78 s79 s80 s81 s82 s83 s84 s85 s86 s87 s88 s89 s90 s91 s92 s93 s94 s95 s96 s97 s98 s99 s100 s101 s102 s103 s104 s105 s106 s107 s108 s109 s110 s111 s112 s113 s114 s115 s116 s117 s118 s119 s120 s121 s122 s123 s124 s125 s126 s127 s128 s129 s130 s131 s132 s133 s134 s135 s136 s137 s138 s139 s140 s141 s142 s143 s144 s145 s146 s147 s148 s149 s150 s151 s152 s153 s154 s155 s156 s157 s158 s159 s160 s161 s162 s163 s164 s165 : Value} {rooms : List Int} {l : List Ev} {blk off vc T M E j : Nat} {bs : Nat → Nat} {w0 wS wr : World} {K : Act → World → Prop} {Q1 : Exit → Act → World → Prop}
    (hv : EvsAt wS (fun b => b < wS.heap.size) (.slice (some ⟨blk, off, none⟩) l.length vc) l) (hc1 : l.length ≤ vc) (hc2 : vc ≤ 9223372036854775807) (ht : TabIn w0 wS T l.length l.length bs (hbB rooms l)) (hok : l.all Ev.ok = true) (hwf : ∀ e ∈ l, (Lit.int .i64 e.obj).wf = true) (hl : l.length ≤ 1000) (hj : j < l.length)
    (hin : RfIn wS wr rooms l j M s5) (hE : wr.heap[E]? = some (.cells (evC (evAt l j)).toArray 25 (0, 0))) (hEw : wS.heap.size ≤ E) (hE5 : s5.ownBlock ≠ some E)
    (hK : ∀ (x7 x8 x9 x10 x11 x12 x13 x19 x20 x21 x22 x23 x24 x25 x26 x27 x28 x29 x30 x31 x32 x33 x34 x35 x36 x37 x38 x39 x40 x41 x42 x43 x44 x45 x46 x47 x48 x49 x50 x51 x52 x53 x54 x55 x56 x57 x58 x59 x60 x61 x62 x63 x64 x65 x66 x67 x68 x69 x70 x71 x72 x73 x74 x75 x76 x77 x78 x79 x80 x81 x82 x83 x84 x85 x86 x87 x88 x89 x90 x91 x92 x93 x94 x95 x96 x97 x98 x99 x100 x101 x102 x103 x104 x105 x106 x107 x108 x109 x110 x111 x112 x113 x114 x115 x116 x117 x118 x119 x120 x121 x122 x123 x124 x125 x126 x127 x128 x129 x130 x131 x132 x133 x134 x135 x136 x137 x138 x139 x140 x141 x142 x143 x144 x145 x146 x147 x148 x149 x150 x151 x152 x153 x154 x155 x156 x157 x158 x159 x160 x161 x162 x163 x164 : Value) (v5 : Value) (wx : World), RfIn wS wx rooms l (j + 1) M v5 → K ⟨#[.slice (some ⟨blk, off, none⟩) l.length vc, .slice (some ⟨T, 0, none⟩) l.length l.length, s2, s3, s4, v5, .map (some M), x7, x8, x9, x10, x11, x12, x13, s14, s15, s16, s17, .int .i64 (j : Int), x19, x20, x21, x22, x23, x24, x25, x26, x27, x28, x29, x30, x31, x32, x33, x34, x35, x36, x37, x38, x39, x40, x41, x42, x43, x44, x45, x46, x47, x48, x49, x50, x51, x52, x53, x54, x55, x56, x57, x58, x59, x60, x61, x62, x63, x64, x65, x66, x67, x68, x69, x70, x71, x72, x73, x74, x75, x76, x77, x78, x79, x80, x81, x82, x83, x84, x85, x86, x87, x88, x89, x90, x91, x92, x93, x94, x95, x96, x97, x98, x99, x100, x101, x102, x103, x104, x105, x106, x107, x108, x109, x110, x111, x112, x113, x114, x115, x116, x117, x118, x119, x120, x121, x122, x123, x124, x125, x126, x127, x128, x129, x130, x131, x132, x133, x134, x135, x136, x137, x138, x139, x140, x141, x142, x143, x144, x145, x146, x147, x148, x149, x150, x151, x152, x153, x154, x155, x156, x157, x158, x159, x160, x161, x162, x163, x164, s165], []⟩ wx) :
    Code.wp Tryd.prog (rfCode 1) (Exit.inBlock 1 (Exit.then K Q1)) ⟨#[.slice (some ⟨blk, off, none⟩) l.length vc, .slice (some ⟨T, 0, none⟩) l.length l.length, s2, s3, s4, s5, .map (some M), .int .i64 (j : Int), .pointer (some ⟨E, 0, none⟩), s9, s10, s11, s12, s13, s14, s15, s16, s17, .int .i64 (j : Int), s19, s20, s21, s22, s23, s24, s25, s26, s27, s28, s29, s30, s31, s32, s33, s34, s35, s36, s37, s38, s39, s40, s41, s42, s43, s44, s45, s46, s47, s48, s49, s50, s51, s52, s53, s54, s55, s56, s57, s58, s59, s60, s61, s62, s63, s64, s65, s66, s67, s68, s69, s70, s71, s72, s73, s74, s75, s76, s77, s78, s79, s80, s81, s82, s83, s84, s85, s86, s87, s88, s89, s90, s91, s92, s93, s94, s95, s96, s97, s98, s99, s100, s101, s102, s103, s104, s105, s106, s107, s108, s109, s110, s111, s112, s113, s114, s115, s116, s117, s118, s119, s120, s121, s122, s123, s124, s125, s126, s127, s128, s129, s130, s131, s132, s133, s134, s135, s136, s137, s138, s139, s140, s141, s142, s143, s144, s145, s146, s147, s148, s149, s150, s151, s152, s153, s154, s155, s156, s157, s158, s159, s160, s161, s162, s163, s164, s165], []⟩ wr := by
  have HK := hid hK
  have HI := hid hin
  have HV := hid hv
  have HT := hid ht
  have HARG := hid (And.intro hok (And.intro hwf (And.intro hE (And.intro hEw hE5))))
  have HKY := hid (key_ok (hwf _ (by rw [evAt_get l j hj]; exact List.getElem_mem _) : (Lit.int .i64 (evAt l j).obj).wf = true))
  have HNA := hid (fun h => found_noacc (rooms := rooms) (l := l) (j := j) h)
  have HDU := hid (fun h => found_dup (rooms := rooms) (l := l) (j := j) h)
  obtain ⟨t, hm, htl, htg⟩ := hin.map
  have HM := hid hm
  obtain ⟨sg, sc, rfl⟩ := hin.some_
  obtain ⟨d, hd⟩ : ∃ d, (foundL rooms l j).any (fun r => r.pl == (evAt l j).obj) = d := ⟨_, rfl⟩
  have HLK := hid (show (mget t (evAt l j).obj).getD (.bool false) = .bool d by rw [htg, hd]; cases d <;> rfl)
  have HDD := hid hd
  obtain ⟨e, he⟩ : ∃ e, evAt l j = e := ⟨_, rfl⟩
  have HEJ := hid he
  rw [he] at hE HKY HLK HNA
  obtain ⟨g, kd, ob, a⟩ := e
  have hEl : E < wr.heap.size := (Array.getElem?_eq_some_iff.1 hE).1
  have HE0 := hid hE
  have e0 : wr.cell? ⟨E, 0, none⟩ = some (.int .i64 g) := cell_at hE 0
  have e1 : wr.cell? ⟨E, 1, none⟩ = some (.int .i64 kd) := cell_at hE 1
  have e2 : wr.cell? ⟨E, 2, none⟩ = some (.int .i64 ob) := cell_at hE 2
  clear hv ht hK hin hok hwf hE hEw hE5 hm htl htg hd he
  conv => arg 2; whnf
  dsimp only
  go_upto_region 6 with fail
  go_cut [36] from 23 to 36 (fun s36 wx => s36 = .bool (!(kd == 1 || kd == 2) || d) ∧ wr = wx)
  case first =>
    by_cases h1 : kd = 1
    · subst h1
      go_wp2_with (at_lookup; refine wpList_ilook_if (by rfl) (.tmp 32) (.tmp 34) 80 4 rfl int_keys Tryd.underlying80 M t rfl HM.out ob rfl HKY.out _ (bool_zero _) ?_; rw [HLK.out])
      go_meet
      exact ⟨rfl, rfl⟩
    · by_cases h2 : kd = 2
      · subst h2
        go_wp2_with (at_lookup; refine wpList_ilook_if (by rfl) (.tmp 32) (.tmp 34) 80 4 rfl int_keys Tryd.underlying80 M t rfl HM.out ob rfl HKY.out _ (bool_zero _) ?_; rw [HLK.out])
        go_meet
        exact ⟨rfl, rfl⟩
      · have t1 : (kd != 1) = true := by simp [h1]
        have t2 : (kd != 2) = true := by simp [h2]
        have t3 : (kd == 1 || kd == 2) = false := by simp [h1, h2]
        have HT3 := hid t3
        clear h1 h2 t3
        go_wp2_with fail
        go_meet
        exact ⟨by rw [HT3.out]; rfl, rfl⟩
  case rest =>
  obtain ⟨rfl, rfl⟩ := hcut
  cases hac : (kd == 1 || kd == 2)
  · have HAC := hid hac
    clear hac
    simp only [Bool.not_false, Bool.true_or]
    go_wp2_with fail
    exact HK.out _ _ _ _ _ _ _ _ _ _ _ _ _ _ _ _ _ _ _ _ _ _ _ _ _ _ _ _ _ _ _ _ _ _ _ _ _ _ _ _ _ _ _ _ _ _ _ _ _ _ _ _ _ _ _ _ _ _ _ _ _ _ _ _ _ _ _ _ _ _ _ _ _ _ _ _ _ _ _ _ _ _ _ _ _ _ _ _ _ _ _ _ _ _ _ _ _ _ _ _ _ _ _ _ _ _ _ _ _ _ _ _ _ _ _ _ _ _ _ _ _ _ _ _ _ _ _ _ _ _ _ _ _ _ _ _ _ _ _ _ _ _ _ _ _ _ _ _ _ _ _ _ _  _ _ (HI.out.same (HNA.out HAC.out))
  cases d
  rotate_left
  · simp only [Bool.or_true]
    go_wp2_with fail
    exact HK.out _ _ _ _ _ _ _ _ _ _ _ _ _ _ _ _ _ _ _ _ _ _ _ _ _ _ _ _ _ _ _ _ _ _ _ _ _ _ _ _ _ _ _ _ _ _ _ _ _ _ _ _ _ _ _ _ _ _ _ _ _ _ _ _ _ _ _ _ _ _ _ _ _ _ _ _ _ _ _ _ _ _ _ _ _ _ _ _ _ _ _ _ _ _ _ _ _ _ _ _ _ _ _ _ _ _ _ _ _ _ _ _ _ _ _ _ _ _ _ _ _ _ _ _ _ _ _ _ _ _ _ _ _ _ _ _ _ _ _ _ _ _ _ _ _ _ _ _ _ _ _ _ _  _ _ (HI.out.same (HDU.out HDD.out))
  have HAC := hid hac
  simp only [Bool.not_true, Bool.or_self]
  have h12 : kd = 1 ∨ kd = 2 := by simpa using hac
  have H12 := hid h12
  clear hac h12
  go_upto_block 2 with fail
  go_cut [9, 10, 11] from 37 to 112 (fun s9 s10 s11 wx => s9 = .int .i64 ((fstB rooms l j j).elim (-1) fun f => (f : Int)) ∧ Keep (· < wr.heap.size) wr wx)
  case first =>
    go_wp2_with fail
    obtain ⟨wo, rfl⟩ : ∃ wo : World, wo = wr := ⟨_, rfl⟩
    go_loopg [9, 10, 11] j (fun k s9 s10 s11 wx => ∃ i : Nat, i + k = j ∧ s10 = .int .i64 (i : Int) ∧ s9 = .int .i64 ((fstB rooms l j i).elim (-1) fun f => (f : Int)) ∧ Keep (· < wo.heap.size) wo wx)
    case atStart => exact ⟨0, by omega, rfl, rfl, Keep.refl _ _⟩
    case round =>
      obtain ⟨i, hik, rfl, rfl, hkp⟩ := hrel
      have HIK := hid (And.intro hkp hik)
      by_cases hlt : i < j
      rotate_left
      · obtain rfl : j = i := by omega
        clear hkp hik hlt
        go_wp2_with fail
        go_meet
        exact ⟨rfl, HIK.out.1⟩
      have l0 : (i : Int) < (j : Int) := by omega
      have l1 : (i : Int) < (l.length : Int) := by omega
      have l2 : (j : Int) < (l.length : Int) := by omega
      have hkw := HI.out.keep.trans (hkp.mono fun b hb => Nat.lt_of_lt_of_le hb HI.out.keep.size)
      have HKW := hid hkw
      obtain ⟨blk', off', hva, hblk, hrg⟩ := HV.out.get i (by omega)
      injection hva with hva
      injection hva with hva1 hva2
      subst hva1 hva2
      rw [← evAt_get l i (by omega)] at hrg
      obtain ⟨x, hx⟩ : ∃ x, evAt l i = x := ⟨_, rfl⟩
      have HX := hid hx
      rw [hx] at hrg
      have RG := hid (show wr.rangeAt blk (off + i * 4) (evC x) from fun q u hu => (hkw.cell (x := ⟨blk, off + i * 4 + q, none⟩) hblk).trans (hrg q u hu))
      have osz := ev_size x
      have o1 : (evC x).toArray.all (·.oneCell') = true := by simp [evC, Value.oneCell']
      have HCZ := hid (show czB rooms l j i = (((x.kd == 1 || x.kd == 2) && (x.obj == ob)) && ((x.g != g) && (x.kd == 2 || kd == 2) && !hbB rooms l j i)) from cz_eq hlt HEJ.out hx)
      clear hkw hkp hik hrg hx
      go_upto_region 12 with (first
        | (refine wpList_load_mid rfl 25 (.tmp 44) rfl blk (off + i * 4) rfl (evC x) _ RG.out Tryd.underlying25 rfl osz ?_)
        | (refine wpList_store_row rfl 25 (.tmp 11) (.tmp 45) rfl wr.heap.size (evC x).toArray rfl rfl 25 _ (heap_alloc_new wr _) (by rw [List.size_toArray]; exact osz) rfl o1 ?_))
      refine wp_world (fun wa => Keep (· < wr.heap.size) wr wa ∧ wa.heap[wr.heap.size]? = some (.cells (evC x).toArray 25 (0, 0)))
        ⟨((Keep.refl _ _).alloc _ (fun _ h => h)).setRow _ (by simp), heap_setRow (heap_alloc_new wr _) _⟩ ?_
      rintro wa ⟨ka, hF⟩
      obtain ⟨F, hFF⟩ : ∃ F, wr.heap.size = F := ⟨_, rfl⟩
      rw [hFF] at hF ⊢
      have HA := hid (HIK.out.1.trans (ka.mono fun b hb => Nat.lt_of_lt_of_le hb HIK.out.1.size))
      have hEa := (HA.out.block E hEl).trans HE0.out
      have HTa := hid (HT.out.next (HKW.out.trans (ka.mono fun b hb => Nat.lt_of_lt_of_le hb HKW.out.size)))
      have HVa := hid (HV.out.keep (HKW.out.trans (ka.mono fun b hb => Nat.lt_of_lt_of_le hb HKW.out.size)) (fun _ h => h))
      obtain ⟨g', kd', ob', a'⟩ := x
      clear e0 e1 e2
      have e0 : wa.cell? ⟨E, 0, none⟩ = some (.int .i64 g) := cell_at hEa 0
      have e1 : wa.cell? ⟨E, 1, none⟩ = some (.int .i64 kd) := cell_at hEa 1
      have e2 : wa.cell? ⟨E, 2, none⟩ = some (.int .i64 ob) := cell_at hEa 2
      have f0 : wa.cell? ⟨F, 0, none⟩ = some (.int .i64 g') := cell_at hF 0
      have f1 : wa.cell? ⟨F, 1, none⟩ = some (.int .i64 kd') := cell_at hF 1
      have f2 : wa.cell? ⟨F, 2, none⟩ = some (.int .i64 ob') := cell_at hF 2
      have cT := HTa.out.cellT (i := j) hj
      have cR := HTa.out.cellR (i := j) (k := i) hj (by omega)
      obtain ⟨h, hh⟩ : ∃ h, hbB rooms l j i = h := ⟨_, rfl⟩
      rw [hh] at cR HCZ
      obtain ⟨cz, hcz⟩ : ∃ cz, czB rooms l j i = cz := ⟨_, rfl⟩
      have HCV := hid hcz
      rw [hcz] at HCZ
      have HCZ := hid (show cz = (((kd' == 1 || kd' == 2) && (ob' == ob)) && ((g' != g) && (kd' == 2 || kd == 2) && !h)) from HCZ.out)
      clear hh hcz hEa hF hFF ka RG osz o1
      try simp only [Act.put]
      go_cut [86] from 46 to 86 (fun s86 wx => s86 = .bool (!cz) ∧ wa = wx)
      case first =>
        by_cases k1 : kd' = 1
        · subst k1
          by_cases k2 : ob' = ob
          · subst k2
            by_cases k3 : g' = g
            · subst k3
              obtain rfl : cz = false := by rw [HCZ.out]; simp
              have t1 : (g' == g') = true := by simp
              have t2 : (ob' != ob') = false := by simp
              go_wp2_with fail
              go_meet
              exact ⟨rfl, rfl⟩
            · have t1 : (g' == g) = false := by simp [k3]
              have t2 : (ob' != ob') = false := by simp
              rcases H12.out with rfl | rfl
              · obtain rfl : cz = false := by rw [HCZ.out]; simp
                go_wp2_with fail
                go_meet
                exact ⟨rfl, rfl⟩
              · obtain rfl : cz = !h := by rw [HCZ.out]; simp [k3]
                clear k3
                go_wp2_with fail
                go_meet
                exact ⟨by rw [Bool.not_not], rfl⟩
          · have t1 : (ob' != ob) = true := by simp [k2]
            obtain rfl : cz = false := by rw [HCZ.out]; simp [k2]
            clear k2
            go_wp2_with fail
            go_meet
            exact ⟨rfl, rfl⟩
        by_cases k1' : kd' = 2
        · subst k1'
          by_cases k2 : ob' = ob
          · subst k2
            by_cases k3 : g' = g
            · subst k3
              obtain rfl : cz = false := by rw [HCZ.out]; simp
              have t1 : (g' == g') = true := by simp
              have t2 : (ob' != ob') = false := by simp
              go_wp2_with fail
              go_meet
              exact ⟨rfl, rfl⟩
            · have t1 : (g' == g) = false := by simp [k3]
              have t2 : (ob' != ob') = false := by simp
              obtain rfl : cz = !h := by rw [HCZ.out]; simp [k3]
              clear k3
              go_wp2_with fail
              go_meet
              exact ⟨by rw [Bool.not_not], rfl⟩
          · have t1 : (ob' != ob) = true := by simp [k2]
            obtain rfl : cz = false := by rw [HCZ.out]; simp [k2]
            clear k2
            go_wp2_with fail
            go_meet
            exact ⟨rfl, rfl⟩
        · have t1 : (kd' != 1) = true := by simp [k1]
          have t2 : (kd' != 2) = true := by simp [k1']
          obtain rfl : cz = false := by rw [HCZ.out]; simp [k1, k1']
          clear k1 k1'
          go_wp2_with fail
          go_meet
          exact ⟨rfl, rfl⟩
      case rest =>
      obtain ⟨rfl, rfl⟩ := hcut
      clear cT cR
      cases cz
      · have HN := hid (fst_no HCV.out)
        simp only [Bool.not_false]
        go_wp2_with fail
        go_roundg (gk - 1)
        case measure => have := HIK.out.2; omega
        case rel => exact ⟨i + 1, by have := HIK.out.2; omega, by go_num, by rw [HN.out], HA.out⟩
      simp only [Bool.not_true]
      have hkd' : kd' = 1 ∨ kd' = 2 := by
        have := HCZ.out
        simp only [Bool.true_eq, Bool.and_eq_true, Bool.or_eq_true, beq_iff_eq] at this
        exact this.1.1
      cases hfo : fstB rooms l j i with
      | none =>
        have HN := hid (fst_new HCV.out hfo)
        clear hfo hkd'
        simp only [Option.elim]
        go_wp2_with fail
        go_quiet (fail)
        go_wp2_with fail
        go_roundg (gk - 1)
        case measure => have := HIK.out.2; omega
        case rel => exact ⟨i + 1, by have := HIK.out.2; omega, by go_num, by rw [HN.out]; rfl, HA.out.drewN nq⟩
      | some b =>
        obtain ⟨hbi, hba⟩ := fst_acc hfo
        have HN := hid (fst_old HCV.out hfo)
        have hbe : better l b i = ((kd' == 2) || ((evAt l b).kd == 1 && decide (g' ≤ (evAt l b).g) && !(kd' == 2))) := by
          unfold better
          have hx := HX.out
          rw [hx, decide_eq_true hbi]
          simp only [Ev.wr, Bool.or_true, Bool.and_true]
          have : (!(evAt l b).kd == 2) = ((evAt l b).kd == 1) := by
            simp only [Ev.acc, Bool.or_eq_true, beq_iff_eq] at hba
            rcases hba with h | h <;> simp [h]
          rw [this]
          cases (kd' == 2) <;> simp
        have HBE := hid hbe
        obtain ⟨_, b0, b1, _⟩ := HVa.out.same b (by omega) rfl
        have l3 : (b : Int) < (l.length : Int) := by omega
        obtain ⟨gb, hgb⟩ : ∃ x, (evAt l b).g = x := ⟨_, rfl⟩
        obtain ⟨kb, hkb⟩ : ∃ x, (evAt l b).kd = x := ⟨_, rfl⟩
        rw [hgb] at b0 HBE
        rw [hkb] at b1 HBE
        have tb : decide ((b : Int) < 0) = false := by rw [decide_eq_false_iff_not]; omega
        clear hfo hbi hba hbe hgb hkb
        simp only [Option.elim]
        rcases hkd' with rfl | rfl
        · by_cases q1 : kb = 1
          · subst q1
            by_cases q2 : g' ≤ gb
            · have t4 : decide (g' ≤ gb) = true := by simp [q2]
              have HB := hid (show better l b i = true by rw [HBE.out, t4]; rfl)
              clear q2
              go_wp2_with fail
              go_quiet (fail)
              go_wp2_with fail
              go_roundg (gk - 1)
              case measure => have := HIK.out.2; omega
              case rel => exact ⟨i + 1, by have := HIK.out.2; omega, by go_num, by rw [HN.out, HB.out]; rfl, HA.out.drewN nq⟩
            · have t4 : decide (g' ≤ gb) = false := by simp [q2]
              have HB := hid (show better l b i = false by rw [HBE.out, t4]; rfl)
              clear q2
              go_wp2_with fail
              go_quiet (fail)
              go_wp2_with fail
              go_roundg (gk - 1)
              case measure => have := HIK.out.2; omega
              case rel => exact ⟨i + 1, by have := HIK.out.2; omega, by go_num, by rw [HN.out, HB.out]; rfl, HA.out.drewN nq⟩
          · have t4 : (kb == 1) = false := by simp [q1]
            have HB := hid (show better l b i = false by rw [HBE.out, t4]; rfl)
            clear q1
            go_wp2_with fail
            go_quiet (fail)
            go_wp2_with fail
            go_roundg (gk - 1)
            case measure => have := HIK.out.2; omega
            case rel => exact ⟨i + 1, by have := HIK.out.2; omega, by go_num, by rw [HN.out, HB.out]; rfl, HA.out.drewN nq⟩
        · have HB := hid (show better l b i = true by rw [HBE.out]; rfl)
          go_wp2_with fail
          go_quiet (fail)
          go_wp2_with fail
          go_roundg (gk - 1)
          case measure => have := HIK.out.2; omega
          case rel => exact ⟨i + 1, by have := HIK.out.2; omega, by go_num, by rw [HN.out, HB.out]; rfl, HA.out.drewN nq⟩
  case rest =>
    obtain ⟨rfl, hkc⟩ := hcut
    refine ‹∀ (a : Act) (w : World), Code.wp _ _ _ a w → _› _ _ ?_
    exact rf_b HV.out hc1 hc2 HT.out HARG.out.1 HARG.out.2.1 hl hj (HI.out.next hkc) ((hkc.block E hEl).trans HARG.out.2.2.1) HARG.out.2.2.2.1 HARG.out.2.2.2.2 (by rw [HEJ.out]; exact HAC.out) HDD.out rfl HK.out

set_option maxRecDepth 1000000 in
set_option maxHeartbeats 8000000 in
theorem refRaces_walk (rooms : List Int) (l : List Ev) (v : Value) (T : Nat) (bs : Nat → Nat) (w0 w : World) (p : Nat → Prop) (hv : EvsAt w p v l) (ht : TabIn w0 w T l.length l.length bs (hbB rooms l)) (hok : l.all Ev.ok = true) (hwf : ∀ e ∈ l, (Lit.int .i64 e.obj).wf = true) (hl : l.length ≤ 1000) :
    Calls Tryd.prog 20 #[v, .slice (some ⟨T, 0, none⟩) l.length l.length] w fun e w' => ∃ out, e = .returned out ∧ OwnS w.heap.size w' 56 5 out ((racesP rooms l).map rcC) ∧ Keep (· < w.heap.size) w w' := by
  have HV := hid (hv.lt.mono (q := fun b => b < w.heap.size) (fun _ h => h.1))
  have HT := hid ht
  have HOK := hid hok
  have HWF := hid hwf
  obtain ⟨va, vc, rfl, hc1, hc2⟩ := hv.form
  clear hv ht hok hwf
  have hmm := @run_makeMap Tryd.prog
  go_enter Tryd.func20, Tryd.ntmps20
  go_upto_region 3 with fail
  clear hmm
  refine wp_world (fun w1 => RfIn w w1 rooms l 0 (w.heap.size + 1) (.slice (some ⟨w.heap.size, 0, none⟩) 0 0)) ?_ ?_
  · have k1 : Keep (· < w.heap.size + 1) (w.alloc (.cells #[] 56)) ((w.alloc (.cells #[] 56)).alloc (.map #[] 0)) := (Keep.refl _ _).alloc _ (fun _ h => by rw [World.size_alloc]; exact h)
    have k0 : Keep (· < w.heap.size) w (w.alloc (.cells #[] 56)) := (Keep.refl _ _).alloc _ (fun _ h => h)
    have hm := IMap.made Tryd.prog 3 (w.alloc (.cells #[] 56))
    rw [World.size_alloc] at hm
    exact ⟨⟨rfl, .inr ⟨w.heap.size, 0, #[], rfl, Nat.le_refl _, (k1.block _ (by omega)).trans (heap_alloc_new w _), Nat.le_refl _, by decide, rfl, rfl⟩⟩, ⟨_, _, rfl⟩, ⟨[], hm, Nat.le_refl _, fun c => rfl⟩, by omega, by simp [Value.ownBlock], k0.trans (k1.mono fun b hb => by omega)⟩
  rintro w1 h1
  obtain ⟨M, hM⟩ : ∃ M, w.heap.size + 1 = M := ⟨_, rfl⟩
  obtain ⟨S, hS⟩ : ∃ S, w.heap.size = S := ⟨_, rfl⟩
  rw [hM] at h1
  rw [hM, hS]
  have H1 := hid (show RfIn w w1 rooms l 0 M (.slice (some ⟨S, 0, none⟩) 0 0) from hS ▸ h1)
  clear h1 hM hS
  go_wp2_with fail
  go_loopg [5, 18] l.length (fun k s5 s18 wx => ∃ j : Nat, j + k = l.length ∧ s18 = .int .i64 (j : Int) ∧ RfIn w wx rooms l j M s5)
  case atStart => exact ⟨0, by omega, rfl, H1.out⟩
  case round =>
    obtain ⟨j, hjk, rfl, hin⟩ := hrel
    have HI := hid (And.intro hin hjk)
    by_cases hlt : j < l.length
    · have l0 : (j : Int) < (l.length : Int) := by omega
      obtain ⟨blk, off, rfl, hblk, hrg⟩ := HV.out.get j hlt
      rw [← evAt_get l j hlt] at hrg
      have RG := hid (show wr.rangeAt blk (off + j * 4) (evC (evAt l j)) from fun q u hu => (hin.keep.cell (x := ⟨blk, off + j * 4 + q, none⟩) hblk).trans (hrg q u hu))
      obtain ⟨x, hx⟩ : ∃ x, evAt l j = x := ⟨_, rfl⟩
      have HX := hid hx
      rw [hx] at RG
      have osz := ev_size x
      have o1 : (evC x).toArray.all (·.oneCell') = true := by simp [evC, Value.oneCell']
      obtain ⟨ra5, n5, rc5, rfl⟩ : ∃ a n c, u5 = .slice a n c := by obtain ⟨g, c, e⟩ := hin.some_; exact ⟨_, _, _, e⟩
      clear hin hjk hrg hx hblk
      go_upto_region 5 with fail
      go_cut [7, 8] from 20 to 22 (fun s7 s8 wx => s7 = .int .i64 (j : Int) ∧ s8 = .pointer (some ⟨wr.heap.size, 0, none⟩) ∧ Keep (· < wr.heap.size) wr wx ∧ wx.heap[wr.heap.size]? = some (.cells (evC x).toArray 25 (0, 0)))
      case first =>
        go_wp2_with (first
          | (refine wpList_load_mid rfl 25 (.tmp 21) rfl blk (off + j * 4) rfl (evC x) _ RG.out Tryd.underlying25 rfl osz ?_)
          | (refine wpList_store_row rfl 25 (.tmp 8) (.tmp 22) rfl wr.heap.size (evC x).toArray rfl rfl 25 _ (heap_alloc_new wr _) (by rw [List.size_toArray]; exact osz) rfl o1 ?_))
        go_meet
        exact ⟨rfl, rfl, ((Keep.refl _ _).alloc _ (fun _ h => h)).setRow _ (by simp), heap_setRow (heap_alloc_new wr _) _⟩
      case rest =>
        obtain ⟨rfl, rfl, hk, hE⟩ := hcut
        refine ‹∀ (a : Act) (w : World), Code.wp _ _ _ a w → _› _ _ ?_
        refine rf_a HV.out hc1 hc2 HT.out HOK.out HWF.out hl hlt (HI.out.1.next hk) (by rw [HX.out]; exact hE) HI.out.1.keep.size (fun e => by have := (HI.out.1.row.lt e).2; omega) ?_
        rintro x7 x8 x9 x10 x11 x12 x13 x19 x20 x21 x22 x23 x24 x25 x26 x27 x28 x29 x30 x31 x32 x33 x34 x35 x36 x37 x38 x39 x40 x41 x42 x43 x44 x45 x46 x47 x48 x49 x50 x51 x52 x53 x54 x55 x56 x57 x58 x59 x60 x61 x62 x63 x64 x65 x66 x67 x68 x69 x70 x71 x72 x73 x74 x75 x76 x77 x78 x79 x80 x81 x82 x83 x84 x85 x86 x87 x88 x89 x90 x91 x92 x93 x94 x95 x96 x97 x98 x99 x100 x101 x102 x103 x104 x105 x106 x107 x108 x109 x110 x111 x112 x113 x114 x115 x116 x117 x118 x119 x120 x121 x122 x123 x124 x125 x126 x127 x128 x129 x130 x131 x132 x133 x134 x135 x136 x137 x138 x139 x140 x141 x142 x143 x144 x145 x146 x147 x148 x149 x150 x151 x152 x153 x154 x155 x156 x157 x158 x159 x160 x161 x162 x163 x164 v5 wx h
        have HH := hid h
        clear h
        refine ‹∀ (a : Act) (w : World), Code.wp _ _ _ a w → _› _ _ ?_
        go_wp2_with fail
        go_roundg (gk - 1)
        case measure => have := HI.out.2; omega
        case rel => exact ⟨j + 1, by have := HI.out.2; omega, by go_num, HH.out⟩
    · obtain rfl : l.length = j := by omega
      have HX := hid hin
      clear hin hjk hlt
      go_wp2_with fail
      go_ret
      exact ⟨_, rfl, HX.out.row, HX.out.keep⟩
end Go.Proofs.YtalihehmbiohlaaDoor
