/-
  Step by step: Direct of the document's answer of layer 18.
-/
import Derived.Test.YtalihehmbiohlaaDoorOrdEa
import Derived.Test.YtalihehmbiohlaaDoorTxt4
import Derived.Deep.DeepCutAuto
namespace Go.Proofs.YtalihehmbiohlaaDoor
open Go.RowKit Go.Maps Go.Proofs.Mem Go.Proofs.Txt Go.Proofs.Ord Go.Proofs.Mp

theorem direct_eq {rooms : List Int} {l : List Ev} {i j : Nat} {g kd ob a g' kd' ob' a' : Int} (he : evAt l i = ⟨g, kd, ob, a⟩) (hf : evAt l j = ⟨g', kd', ob', a'⟩) :
    directB rooms l i j = (decide (g = g') || (decide (kd = 10) && decide (ob = g')) || backB rooms l i g' || (decide (ob = ob') && ((decide (kd = 4) && decide (kd' = 3)) || (atmB kd && atmB kd') || (decide (kd = 5) && decide (kd' = 6) && decide (whichP l i = whichP l j)) ||
      (decide (kd = 6) && decide (kd' = 5) && (decide (0 < roomOf rooms ob) && decide (roomOf rooms ob ≤ whichP l j) && decide (whichP l j - roomOf rooms ob = whichP l i)))))) := by
  unfold directB feedB pairB
  rw [he, hf]
theorem back_no {rooms : List Int} {l : List Ev} {i : Nat} {g kd ob a : Int} (he : evAt l i = ⟨g, kd, ob, a⟩) (h : ¬ (kd = 6 ∧ roomOf rooms ob = 0)) (g' : Int) : backB rooms l i g' = false := by
  unfold backB
  rw [he]
  by_cases h1 : kd = 6
  · rw [decide_eq_false (show ¬ roomOf rooms ob = 0 from fun h2 => h ⟨h1, h2⟩)]; simp
  · rw [decide_eq_false h1]; simp
theorem back_cases {rooms : List Int} {l : List Ev} {i : Nat} {g ob a : Int} (he : evAt l i = ⟨g, 6, ob, a⟩) (h : roomOf rooms ob = 0) :
    (nthP 5 ob l (whichP l i) = -1 ∧ ∀ g, backB rooms l i g = false) ∨ ∃ m, m < l.length ∧ nthP 5 ob l (whichP l i) = (m : Nat) ∧ ∀ g, backB rooms l i g = (decide (m < i) && decide ((evAt l m).g = g)) := by
  unfold nthP
  cases hs : (sel 5 ob l l.length)[whichP l i]? with
  | none => exact .inl ⟨rfl, fun g => by unfold backB; rw [he]; simp only; rw [hs]; simp⟩
  | some m => exact .inr ⟨m, ((sel_get _ _ _ _ _ _).1 hs).1, rfl, fun g => by unfold backB; rw [he]; simp only; rw [hs, h]; simp⟩
theorem which_le (l : List Ev) (i : Nat) : whichP l i ≤ i := by
  unfold whichP sel
  have := List.length_filter_le (fun k => (evAt l k).kd == (evAt l i).kd && (evAt l k).obj == (evAt l i).obj) (List.range i)
  rw [List.length_range] at this
  exact this
noncomputable def dirCode (k : Nat) : Code := tailAt k ((Tryd.f31.body).getD .skip)
set_option maxRecDepth 100000 in
set_option maxHeartbeats 8000000 in
/-- by their object. -/
theorem dir_c {s1 s4 s5 s6 s7 s8 s12 s13 s14 s15 s16 s17 s18 s19 s20 s21 s22 s23 s24 s25 s26 s27 s28 s29 s30 s31 s32 s33 s34 s35 s36 s37 s38 s39 s40 s41 s42 s43 s44 s45 s46 s47 s48 s49 s50 s51 s52 s53 s54 s55 s56 s57 s58 s59 s60 s61 s62 s63 s64 s65 s66 s67 s68 s69 s70 s71 s72 s73 s74 s75 s76 s77 s78 s79 s80 s81 s82 s83 s84 s85 s86 s87 s88 s89 s90 s91 s92 s93 s94 s95 s96 s97 s98 s99 s100 s101 s102 s103 s104 s105 s106 s107 s108 s109 s110 s111 s112 s113 s114 s115 s116 s117 s118 s119 s120 s121 s122 s123 s124 s125 s126 s127 s128 s129 s130 s131 s132 s133 s134 s135 s136 s137 s138 s139 s140 s141 s142 s143 s144 s145 s146 s147 s148 s149 s150 s151 s152 s153 s154 s155 s156 s157 s158 : Value} {l : List Ev} {i j A B blk off vc R WI WJ : Nat} {g kd ob a g' kd' ob' a' : Int} {D : Bool} {w wc : World} (hi : i < l.length) (hj : j < l.length) (hl : l.length ≤ 1000) (hc1 : l.length ≤ vc) (hc2 : vc ≤ 9223372036854775807) (hr8 : R ≤ 9223372036854775807)
    (hv : EvsAt w (fun b => b < w.heap.size) (.slice (some ⟨blk, off, none⟩) l.length vc) l) (hWI : whichP l i = WI) (hWJ : whichP l j = WJ) (hA : wc.heap[A]? = some (.cells (evC ⟨g, kd, ob, a⟩).toArray 25 (0, 0))) (hB : wc.heap[B]? = some (.cells (evC ⟨g', kd', ob', a'⟩).toArray 25 (0, 0))) (kc : Keep (· < w.heap.size) w wc)
    (hd : D = (decide (ob = ob') && ((decide (kd = 4) && decide (kd' = 3)) || (atmB kd && atmB kd') || (decide (kd = 5) && decide (kd' = 6) && decide (WI = WJ)) || (decide (kd = 6) && decide (kd' = 5) && (decide (0 < R) && decide (R ≤ WJ) && decide (WJ - R = WI)))))) :
    Code.wp Tryd.prog (dirCode 6) (bodyPost Tryd.prog Tryd.f31 fun e w' => e = .returned (.bool D) ∧ Keep (· < w.heap.size) w w') ⟨#[.slice (some ⟨blk, off, none⟩) l.length vc, s1, .int .i64 (i : Int), .int .i64 (j : Int), s4, s5, s6, s7, s8, .pointer (some ⟨A, 0, none⟩), .pointer (some ⟨B, 0, none⟩), .int .i64 (R : Int), s12, s13, s14, s15, s16, s17, s18, s19, s20, s21, s22, s23, s24, s25, s26, s27, s28, s29, s30, s31, s32, s33, s34, s35, s36, s37, s38, s39, s40, s41, s42, s43, s44, s45, s46, s47, s48, s49, s50, s51, s52, s53, s54, s55, s56, s57, s58, s59, s60, s61, s62, s63, s64, s65, s66, s67, s68, s69, s70, s71, s72, s73, s74, s75, s76, s77, s78, s79, s80, s81, s82, s83, s84, s85, s86, s87, s88, s89, s90, s91, s92, s93, s94, s95, s96, s97, s98, s99, s100, s101, s102, s103, s104, s105, s106, s107, s108, s109, s110, s111, s112, s113, s114, s115, s116, s117, s118, s119, s120, s121, s122, s123, s124, s125, s126, s127, s128, s129, s130, s131, s132, s133, s134, s135, s136, s137, s138, s139, s140, s141, s142, s143, s144, s145, s146, s147, s148, s149, s150, s151, s152, s153, s154, s155, s156, s157, s158], []⟩ wc := by
  have HV := hid hv
  have HWI := hid (And.intro hWI hWJ)
  have HLA := hid (And.intro (Array.getElem?_eq_some_iff.1 hA).1 (Array.getElem?_eq_some_iff.1 hB).1)
  have a0 : wc.cell? ⟨A, 0, none⟩ = some (.int .i64 g) := cell_at hA 0
  have a1 : wc.cell? ⟨A, 1, none⟩ = some (.int .i64 kd) := cell_at hA 1
  have a2 : wc.cell? ⟨A, 2, none⟩ = some (.int .i64 ob) := cell_at hA 2
  have b0 : wc.cell? ⟨B, 0, none⟩ = some (.int .i64 g') := cell_at hB 0
  have b1 : wc.cell? ⟨B, 1, none⟩ = some (.int .i64 kd') := cell_at hB 1
  have b2 : wc.cell? ⟨B, 2, none⟩ = some (.int .i64 ob') := cell_at hB 2
  have l0 : (i : Int) < (l.length : Int) := by omega
  have l1 : (j : Int) < (l.length : Int) := by omega
  have hw8 := which_le l i
  have hwj := which_le l j
  rw [hWI] at hw8
  rw [hWJ] at hwj
  have HC := hid kc
  have HD3 := hid hd
  clear hv hWI hWJ hA hB kc hd
  have NW := hid (show ∀ wx, Keep (· < w.heap.size) w wx → Calls Tryd.prog 43 #[.slice (some ⟨blk, off, none⟩) l.length vc, .int .i64 (i : Int)] wx fun e w' => e = .returned (.int .i64 (WI : Int)) ∧ Keep (fun _ => True) wx w' from fun wx kx => by
    have := which_walk l _ i wx _ (HV.out.keep kx (fun _ h => h)) hi hl
    rwa [HWI.out.1] at this)
  have NJ := hid (show ∀ wx, Keep (· < w.heap.size) w wx → Calls Tryd.prog 43 #[.slice (some ⟨blk, off, none⟩) l.length vc, .int .i64 (j : Int)] wx fun e w' => e = .returned (.int .i64 (WJ : Int)) ∧ Keep (fun _ => True) wx w' from fun wx kx => by
    have := which_walk l _ j wx _ (HV.out.keep kx (fun _ h => h)) hj hl
    rwa [HWI.out.2] at this)
  conv => arg 2; whnf
  by_cases hob : ob = ob'
  rotate_left
  · have t1 : (ob != ob') = true := by simp [hob]
    obtain rfl : D = false := by have := HD3.out; rw [decide_eq_false hob] at this; simpa using this
    go_wp2_with fail
    go_ret
    exact ⟨rfl, HC.out⟩
  subst hob
  have t1 : (ob != ob) = false := by simp
  have HD4 := hid (show D = ((decide (kd = 4) && decide (kd' = 3)) || (atmB kd && atmB kd') || (decide (kd = 5) && decide (kd' = 6) && decide (WI = WJ)) ||
      (decide (kd = 6) && decide (kd' = 5) && (decide (0 < R) && decide (R ≤ WJ) && decide (WJ - R = WI)))) by have := HD3.out; simpa using this)
  clear HD3
  go_upto_region 13 with fail
  go_cut [97] (fun s97 wx => s97 = .bool (decide (kd = 4) && decide (kd' = 3)) ∧ wx = wc)
  case first =>
    by_cases h1 : kd = 4
    · subst h1
      have t2 : (kd' == 3) = decide (kd' = 3) := rfl
      obtain ⟨d, hd⟩ : ∃ d, decide (kd' = 3) = d := ⟨_, rfl⟩
      rw [hd] at t2
      have HDD := hid hd
      clear hd
      go_wp2_with fail
      go_meet
      exact ⟨by rw [HDD.out]; rfl, rfl⟩
    · have t2 : (kd == 4) = false := by simp [h1]
      go_wp2_with fail
      go_meet
      exact ⟨by rw [decide_eq_false h1]; rfl, rfl⟩
  case rest =>
  obtain ⟨rfl, rfl⟩ := hcut
  obtain ⟨c1, hc1⟩ : ∃ c, (decide (kd = 4) && decide (kd' = 3)) = c := ⟨_, rfl⟩
  rw [hc1] at HD4 ⊢
  clear hc1
  cases c1
  rotate_left
  · obtain rfl : D = true := by have := HD4.out; simpa using this
    go_wp2_with fail
    go_ret
    exact ⟨rfl, HC.out⟩
  go_upto_region 14 with fail
  go_cut [97] (fun s97 wx => s97 = .bool (atmB kd && atmB kd') ∧ wx = wc)
  case first =>
    go_wp2_with fail
    refine (atomic_walk kd wc).mono ?_
    rintro e w1 ⟨rfl, rfl⟩
    obtain ⟨c2, hc2⟩ : ∃ c, atmB kd = c := ⟨_, rfl⟩
    have HA2 := hid hc2
    rw [hc2]
    clear hc2
    cases c2
    · go_wp2_with fail
      go_meet
      exact ⟨by rw [HA2.out]; rfl, rfl⟩
    · go_wp2_with fail
      refine (atomic_walk kd' w1).mono ?_
      rintro e w2 ⟨rfl, rfl⟩
      obtain ⟨c3, hc3⟩ : ∃ c, atmB kd' = c := ⟨_, rfl⟩
      have HA3 := hid hc3
      rw [hc3]
      clear hc3
      go_wp2_with fail
      go_meet
      exact ⟨by rw [HA2.out, HA3.out]; rfl, rfl⟩
  case rest =>
  obtain ⟨rfl, rfl⟩ := hcut
  obtain ⟨c2, hc2⟩ : ∃ c, (atmB kd && atmB kd') = c := ⟨_, rfl⟩
  rw [hc2] at HD4 ⊢
  clear hc2
  cases c2
  rotate_left
  · obtain rfl : D = true := by have := HD4.out; simpa using this
    go_wp2_with fail
    go_ret
    exact ⟨rfl, HC.out⟩
  go_upto_region 16 with fail
  go_cut [114] (fun s114 wx => s114 = .bool (decide (kd = 5) && decide (kd' = 6)) ∧ wx = wc)
  case first =>
    by_cases h1 : kd = 5
    · subst h1
      have t2 : (kd' == 6) = decide (kd' = 6) := rfl
      obtain ⟨d, hd⟩ : ∃ d, decide (kd' = 6) = d := ⟨_, rfl⟩
      rw [hd] at t2
      have HDD := hid hd
      clear hd
      go_wp2_with fail
      go_meet
      exact ⟨by rw [HDD.out]; rfl, rfl⟩
    · have t2 : (kd == 5) = false := by simp [h1]
      go_wp2_with fail
      go_meet
      exact ⟨by rw [decide_eq_false h1]; rfl, rfl⟩
  case rest =>
  obtain ⟨rfl, rfl⟩ := hcut
  have HX5 := hid (show (decide (kd = 5) && decide (kd' = 6)) = true → (decide (kd = 6) && decide (kd' = 5)) = false by
    intro h; simp only [Bool.and_eq_true, decide_eq_true_eq] at h; rw [decide_eq_false (show ¬ kd = 6 by omega)]; rfl)
  obtain ⟨c3, hc3⟩ : ∃ c, (decide (kd = 5) && decide (kd' = 6)) = c := ⟨_, rfl⟩
  rw [hc3] at HD4 HX5 ⊢
  clear hc3
  cases c3
  rotate_left
  · have hD : D = decide (WI = WJ) := by have := HD4.out; rw [HX5.out rfl] at this; simpa using this
    have HDW := hid hD
    clear hD
    go_wp2_with fail
    refine (NW.out _ HC.out).mono ?_
    rintro e w1 ⟨rfl, k1⟩
    have K1 := hid (HC.out.trans (k1.mono fun _ _ => trivial))
    clear k1
    go_wp2_with fail
    refine (NJ.out _ K1.out).mono ?_
    rintro e w2 ⟨rfl, k2⟩
    have K2 := hid (K1.out.trans (k2.mono fun _ _ => trivial))
    clear k2
    have t3 : ((WI : Int) == (WJ : Int)) = D := by rw [HDW.out]; by_cases h : WI = WJ <;> simp [h] <;> omega
    have t4 : (WI == WJ) = D := by rw [HDW.out]; rfl
    go_wp2_with fail
    go_ret
    exact ⟨rfl, K2.out⟩
  go_upto_region 18 with fail
  go_cut [130] (fun s130 wx => s130 = .bool (decide (kd = 6) && decide (kd' = 5)) ∧ wx = wc)
  case first =>
    by_cases h1 : kd = 6
    · subst h1
      have t2 : (kd' == 5) = decide (kd' = 5) := rfl
      obtain ⟨d, hd⟩ : ∃ d, decide (kd' = 5) = d := ⟨_, rfl⟩
      rw [hd] at t2
      have HDD := hid hd
      clear hd
      go_wp2_with fail
      go_meet
      exact ⟨by rw [HDD.out]; rfl, rfl⟩
    · have t2 : (kd == 6) = false := by simp [h1]
      go_wp2_with fail
      go_meet
      exact ⟨by rw [decide_eq_false h1]; rfl, rfl⟩
  case rest =>
  obtain ⟨rfl, rfl⟩ := hcut
  obtain ⟨c4, hc4⟩ : ∃ c, (decide (kd = 6) && decide (kd' = 5)) = c := ⟨_, rfl⟩
  rw [hc4] at HD4 ⊢
  clear hc4
  cases c4
  · obtain rfl : D = false := by have := HD4.out; simpa using this
    go_wp2_with fail
    go_ret
    exact ⟨rfl, HC.out⟩
  · have HDR := hid (show D = (decide (0 < R) && decide (R ≤ WJ) && decide (WJ - R = WI)) by have := HD4.out; simpa using this)
    clear HD4
    by_cases h1 : 0 < R
    rotate_left
    · obtain rfl : R = 0 := by omega
      obtain rfl : D = false := by have := HDR.out; simpa using this
      go_wp2_with fail
      go_ret
      exact ⟨rfl, HC.out⟩
    have t2 : decide ((0 : Int) < (R : Int)) = true := by simp; omega
    have t3 : decide (0 < R) = true := by simp; omega
    go_wp2_with fail
    refine (NJ.out _ HC.out).mono ?_
    rintro e w1 ⟨rfl, k1⟩
    have K1 := hid (HC.out.trans (k1.mono fun _ _ => trivial))
    clear k1
    by_cases h2 : R ≤ WJ
    rotate_left
    · have t4 : decide ((R : Int) ≤ (WJ : Int)) = false := by simp; omega
      have t5 : decide (R ≤ WJ) = false := by simp; omega
      obtain rfl : D = false := by have := HDR.out; rw [t5] at this; simpa using this
      go_wp2_with fail
      go_ret
      exact ⟨rfl, K1.out⟩
    have t4 : decide ((R : Int) ≤ (WJ : Int)) = true := by simp; omega
    have t5 : decide (R ≤ WJ) = true := by simp; omega
    go_wp2_with fail
    refine (NJ.out _ K1.out).mono ?_
    rintro e w2 ⟨rfl, k2⟩
    have K2 := hid (K1.out.trans (k2.mono fun _ _ => trivial))
    clear k2
    have t6 : wrap64 ((WJ : Int) - (R : Int)) = ((WJ - R : Nat) : Int) := by rw [IntWalk.wrap64_in _ ⟨by omega, by omega⟩]; omega
    go_wp2_with fail
    refine (NW.out _ K2.out).mono ?_
    rintro e w3 ⟨rfl, k3⟩
    have K3 := hid (K2.out.trans (k3.mono fun _ _ => trivial))
    clear k3
    have t7 : ((WJ : Int) - (R : Int) == (WI : Int)) = D := by
      have := HDR.out
      rw [t3, t5] at this
      rw [this, Bool.eq_iff_iff]
      simp
      omega
    go_wp2_with fail
    go_ret
    exact ⟨rfl, K3.out⟩
set_option maxRecDepth 100000 in
set_option maxHeartbeats 8000000 in
/-- by the sender that waits. -/
theorem dir_b {s1 s4 s5 s6 s7 s8 s12 s13 s14 s15 s16 s17 s18 s19 s20 s21 s22 s23 s24 s25 s26 s27 s28 s29 s30 s31 s32 s33 s34 s35 s36 s37 s38 s39 s40 s41 s42 s43 s44 s45 s46 s47 s48 s49 s50 s51 s52 s53 s54 s55 s56 s57 s58 s59 s60 s61 s62 s63 s64 s65 s66 s67 s68 s69 s70 s71 s72 s73 s74 s75 s76 s77 s78 s79 s80 s81 s82 s83 s84 s85 s86 s87 s88 s89 s90 s91 s92 s93 s94 s95 s96 s97 s98 s99 s100 s101 s102 s103 s104 s105 s106 s107 s108 s109 s110 s111 s112 s113 s114 s115 s116 s117 s118 s119 s120 s121 s122 s123 s124 s125 s126 s127 s128 s129 s130 s131 s132 s133 s134 s135 s136 s137 s138 s139 s140 s141 s142 s143 s144 s145 s146 s147 s148 s149 s150 s151 s152 s153 s154 s155 s156 s157 s158 : Value} {rooms : List Int} {l : List Ev} {i j A B blk off vc R WI WJ : Nat} {g kd ob a g' kd' ob' a' : Int} {D : Bool} {w wc : World} (hi : i < l.length) (hj : j < l.length) (hl : l.length ≤ 1000) (hc1 : l.length ≤ vc) (hc2 : vc ≤ 9223372036854775807) (hr8 : R ≤ 9223372036854775807)
    (hv : EvsAt w (fun b => b < w.heap.size) (.slice (some ⟨blk, off, none⟩) l.length vc) l) (hWI : whichP l i = WI) (hWJ : whichP l j = WJ) (hA : wc.heap[A]? = some (.cells (evC ⟨g, kd, ob, a⟩).toArray 25 (0, 0))) (hB : wc.heap[B]? = some (.cells (evC ⟨g', kd', ob', a'⟩).toArray 25 (0, 0))) (kc : Keep (· < w.heap.size) w wc)
    (hx : evAt l i = ⟨g, kd, ob, a⟩) (hR : roomOf rooms ob = R) (hd : D = (backB rooms l i g' || (decide (ob = ob') && ((decide (kd = 4) && decide (kd' = 3)) || (atmB kd && atmB kd') || (decide (kd = 5) && decide (kd' = 6) && decide (WI = WJ)) || (decide (kd = 6) && decide (kd' = 5) && (decide (0 < R) && decide (R ≤ WJ) && decide (WJ - R = WI))))))) :
    Code.wp Tryd.prog (dirCode 5) (bodyPost Tryd.prog Tryd.f31 fun e w' => e = .returned (.bool D) ∧ Keep (· < w.heap.size) w w') ⟨#[.slice (some ⟨blk, off, none⟩) l.length vc, s1, .int .i64 (i : Int), .int .i64 (j : Int), s4, s5, s6, s7, s8, .pointer (some ⟨A, 0, none⟩), .pointer (some ⟨B, 0, none⟩), .int .i64 (R : Int), s12, s13, s14, s15, s16, s17, s18, s19, s20, s21, s22, s23, s24, s25, s26, s27, s28, s29, s30, s31, s32, s33, s34, s35, s36, s37, s38, s39, s40, s41, s42, s43, s44, s45, s46, s47, s48, s49, s50, s51, s52, s53, s54, s55, s56, s57, s58, s59, s60, s61, s62, s63, s64, s65, s66, s67, s68, s69, s70, s71, s72, s73, s74, s75, s76, s77, s78, s79, s80, s81, s82, s83, s84, s85, s86, s87, s88, s89, s90, s91, s92, s93, s94, s95, s96, s97, s98, s99, s100, s101, s102, s103, s104, s105, s106, s107, s108, s109, s110, s111, s112, s113, s114, s115, s116, s117, s118, s119, s120, s121, s122, s123, s124, s125, s126, s127, s128, s129, s130, s131, s132, s133, s134, s135, s136, s137, s138, s139, s140, s141, s142, s143, s144, s145, s146, s147, s148, s149, s150, s151, s152, s153, s154, s155, s156, s157, s158], []⟩ wc := by
  have HV := hid hv
  have HWI := hid (And.intro hWI hWJ)
  have HLA := hid (And.intro (Array.getElem?_eq_some_iff.1 hA).1 (Array.getElem?_eq_some_iff.1 hB).1)
  have a0 : wc.cell? ⟨A, 0, none⟩ = some (.int .i64 g) := cell_at hA 0
  have a1 : wc.cell? ⟨A, 1, none⟩ = some (.int .i64 kd) := cell_at hA 1
  have a2 : wc.cell? ⟨A, 2, none⟩ = some (.int .i64 ob) := cell_at hA 2
  have b0 : wc.cell? ⟨B, 0, none⟩ = some (.int .i64 g') := cell_at hB 0
  have b1 : wc.cell? ⟨B, 1, none⟩ = some (.int .i64 kd') := cell_at hB 1
  have b2 : wc.cell? ⟨B, 2, none⟩ = some (.int .i64 ob') := cell_at hB 2
  have l0 : (i : Int) < (l.length : Int) := by omega
  have l1 : (j : Int) < (l.length : Int) := by omega
  have hw8 := which_le l i
  have hwj := which_le l j
  rw [hWI] at hw8
  rw [hWJ] at hwj
  have HC := hid (And.intro kc (And.intro hA hB))
  have HD2 := hid hd
  have HXY := hid hx
  have HRR := hid hR
  clear hv hWI hWJ hA hB kc hd hx hR
  have NW := hid (show ∀ wx, Keep (· < w.heap.size) w wx → Calls Tryd.prog 43 #[.slice (some ⟨blk, off, none⟩) l.length vc, .int .i64 (i : Int)] wx fun e w' => e = .returned (.int .i64 (WI : Int)) ∧ Keep (fun _ => True) wx w' from fun wx kx => by
    have := which_walk l _ i wx _ (HV.out.keep kx (fun _ h => h)) hi hl
    rwa [HWI.out.1] at this)
  have NJ := hid (show ∀ wx, Keep (· < w.heap.size) w wx → Calls Tryd.prog 43 #[.slice (some ⟨blk, off, none⟩) l.length vc, .int .i64 (j : Int)] wx fun e w' => e = .returned (.int .i64 (WJ : Int)) ∧ Keep (fun _ => True) wx w' from fun wx kx => by
    have := which_walk l _ j wx _ (HV.out.keep kx (fun _ h => h)) hj hl
    rwa [HWI.out.2] at this)
  conv => arg 2; whnf
  dsimp only
  go_upto_region 7 with fail
  go_cut [67] (fun s67 wx => s67 = .bool (decide (kd = 6) && decide (R = 0)) ∧ wx = wc)
  case first =>
    by_cases h1 : kd = 6
    · subst h1
      have t2 : ((R : Int) == 0) = decide (R = 0) := by by_cases h : R = 0 <;> simp [h]
      obtain ⟨d, hd⟩ : ∃ d, decide (R = 0) = d := ⟨_, rfl⟩
      rw [hd] at t2
      have HDD := hid hd
      clear hd
      go_wp2_with fail
      go_meet
      exact ⟨by rw [HDD.out]; rfl, rfl⟩
    · have t1 : (kd == 6) = false := by simp [h1]
      go_wp2_with fail
      go_meet
      exact ⟨by rw [decide_eq_false h1]; rfl, rfl⟩
  case rest =>
  obtain ⟨rfl, rfl⟩ := hcut
  go_upto_if 67 with fail
  go_cut [12] (fun s12 wx => backB rooms l i g' = false ∧ Keep (· < w.heap.size) w wx ∧ wx.heap[A]? = some (.cells (evC ⟨g, kd, ob, a⟩).toArray 25 (0, 0)) ∧ wx.heap[B]? = some (.cells (evC ⟨g', kd', ob', a'⟩).toArray 25 (0, 0)))
  case first =>
    by_cases h6 : kd = 6 ∧ R = 0
    · obtain ⟨rfl, rfl⟩ := h6
      have HBC := hid (back_cases HXY.out HRR.out)
      rw [HWI.out.1] at HBC
      simp only [decide_true, Bool.and_self]
      go_upto_region 8 with fail
      refine wp_region_plan [true, true, true, true, true, false, false, false] (.free 0 (.free 1 (.free 2 (.free 3 (.free 4 (.one 5 (.one 6 (.last 7)))))))) (fun wx => wx.cell? ⟨A, 2, none⟩ = some (.int .i64 ob)) (by kernel_rfl) (by kernel_rfl) (show wc.drew.cell? _ = _ from a2) ?_
      iterate 2 (refine plan_free rfl rfl (fun K hK => ?_); go_simp; refine hK _ ?_; clear hK K)
      refine plan_held (.int .i64 ob) rfl rfl (fun w0 h0 => by go_simp) (fun K hK => ?_); refine hK _ ?_; clear hK K
      iterate 2 (refine plan_free rfl rfl (fun K hK => ?_); go_simp; refine hK _ ?_; clear hK K)
      refine plan_one rfl rfl (fun K hK => ?_); go_simp
      refine (NW.out _ HC.out.1.drew).mono ?_
      rintro e w1 ⟨rfl, k1⟩
      have k1 := ((Keep.refl (fun _ => True) wc).drew).trans k1
      refine hK _ _ ⟨(k1.cell (x := ⟨A, 2, none⟩) trivial).trans a2, ?_⟩; clear hK K
      have H1 := hid (And.intro (HC.out.1.trans (k1.mono fun _ _ => trivial)) k1)
      clear k1
      refine plan_one rfl rfl (fun K hK => ?_); go_simp
      refine (nth_walk l _ 5 ob WI w1 _ (HV.out.keep H1.out.1 (fun _ h => h)) (by omega) hl).mono ?_
      rintro e w2 ⟨rfl, k2⟩
      have H2 := hid (And.intro (H1.out.1.trans (k2.mono fun b (hb : b < w.heap.size) => Nat.lt_of_lt_of_le hb H1.out.1.size)) (And.intro ((k2.block A (Nat.lt_of_lt_of_le HLA.out.1 H1.out.2.size)).trans ((H1.out.2.block A trivial).trans HC.out.2.1)) ((k2.block B (Nat.lt_of_lt_of_le HLA.out.2 H1.out.2.size)).trans ((H1.out.2.block B trivial).trans HC.out.2.2))))
      clear k2
      refine hK _ _ ⟨cell_at H2.out.2.1 2, ?_⟩; clear hK K
      rcases HBC.out with ⟨hn, hbk⟩ | ⟨m, hm, hn, hbk⟩
      · rw [hn]
        have HBK := hid hbk
        clear hn hbk
        refine plan_last rfl rfl (fun K hK => ?_); go_simp
        refine hK _ _ ?_; clear hK K
        go_wp2_with fail
        go_quiet (fail)
        go_wp2_with fail
        go_meet
        exact ⟨HBK.out g', H2.out.1.drewN nq, H2.out.2.1, H2.out.2.2⟩
      · rw [hn]
        have HBK := hid (hbk g')
        clear hn hbk
        refine plan_last rfl rfl (fun K hK => ?_); go_simp
        refine hK _ _ ?_; clear hK K
        have tm : (m : Int) < (l.length : Int) := by omega
        have cm := ((HV.out.keep H2.out.1 (fun _ h => h)).same m hm rfl).2.1
        have cb : w2.cell? ⟨B, 0, none⟩ = some (.int .i64 g') := cell_at H2.out.2.2 0
        by_cases hmi : m < i
        · have t5 : (m : Int) < (i : Int) := by omega
          obtain ⟨gm, hgm⟩ : ∃ gm, (evAt l m).g = gm := ⟨_, rfl⟩
          rw [hgm] at cm HBK
          rw [decide_eq_true hmi] at HBK
          clear hmi hgm
          by_cases hgg : gm = g'
          · subst hgg
            have t6 : (gm == gm) = true := by simp
            obtain rfl : D = true := by have := HD2.out; rw [HBK.out] at this; simpa using this
            go_wp2_with fail
            go_quiet (fail)
            go_wp2_with fail
            go_ret
            exact ⟨rfl, H2.out.1.drewN nq⟩
          · have t6 : (gm == g') = false := by simp [hgg]
            rw [decide_eq_false hgg] at HBK
            clear hgg
            go_wp2_with fail
            go_quiet (fail)
            go_wp2_with fail
            go_meet
            exact ⟨HBK.out, H2.out.1.drewN nq, H2.out.2.1, H2.out.2.2⟩
        · have t5 : decide ((m : Int) < (i : Int)) = false := by simp; omega
          have t7 : decide (m < i) = false := by simp; omega
          rw [decide_eq_false hmi] at HBK
          clear hmi
          go_wp2_with fail
          go_quiet (fail)
          go_wp2_with fail
          go_meet
          exact ⟨HBK.out, H2.out.1.drewN nq, H2.out.2.1, H2.out.2.2⟩
    · have t1 : (decide (kd = 6) && decide (R = 0)) = false := by rw [← Bool.not_eq_true, Bool.and_eq_true, decide_eq_true_eq, decide_eq_true_eq]; exact h6
      have HN := hid (back_no HXY.out (by rw [HRR.out]; exact h6) g')
      rw [t1]
      clear t1 h6
      go_wp2_with fail
      go_meet
      exact ⟨HN.out, HC.out.1, HC.out.2.1, HC.out.2.2⟩
  case rest =>
    obtain ⟨hbk, kc, hA, hB⟩ := hcut
    have HD3 := HD2.out
    rw [hbk, Bool.false_or] at HD3
    refine ‹∀ (a : Act) (w : World), Code.wp _ _ _ a w → _› _ _ ?_
    exact dir_c hi hj hl hc1 hc2 hr8 HV.out HWI.out.1 HWI.out.2 hA hB kc HD3
set_option maxRecDepth 100000 in
set_option maxHeartbeats 8000000 in
theorem direct_walk (rooms : List Int) (l : List Ev) (v rv : Value) (i j : Nat) (w : World) (p q : Nat → Prop) (hv : EvsAt w p v l) (hr : Cells w q rv (rooms.map (Value.int .i64))) (hi : i < l.length) (hj : j < l.length) (hl : l.length ≤ 1000) (hrl : rooms.length ≤ 1000) (hrw : ∀ r ∈ rooms, r ≤ 9223372036854775807) :
    Calls Tryd.prog 31 #[v, rv, .int .i64 (i : Int), .int .i64 (j : Int)] w fun e w' => e = .returned (.bool (directB rooms l i j)) ∧ Keep (· < w.heap.size) w w' := by
  have HRW := hid hrw
  obtain ⟨D, hDv⟩ : ∃ D, directB rooms l i j = D := ⟨_, rfl⟩
  have HDV := hid hDv
  rw [hDv]
  clear hrw hDv
  have HV := hid (hv.lt.mono (q := fun b => b < w.heap.size) (fun _ h => h.1))
  have HR := hid (hr.lt.mono (q := fun b => b < w.heap.size) (fun _ h => h.1))
  obtain ⟨va, vc, rfl, hc1, hc2⟩ := hv.form
  obtain ⟨ra, rc, rfl⟩ : ∃ a c, rv = .slice a rooms.length c := by
    obtain ⟨a, n, c, e, h1, _⟩ := hr
    rw [List.length_map] at h1
    exact ⟨a, c, by rw [e, h1]⟩
  obtain ⟨blk, off, rfl, hblk, rgi⟩ := HV.out.get i hi
  obtain ⟨blk2, off2, e2, _, rgj⟩ := HV.out.get j hj
  injection e2 with e2
  injection e2 with e21 e22
  subst e21 e22
  rw [← evAt_get l i hi] at rgi
  rw [← evAt_get l j hj] at rgj
  obtain ⟨x, hx⟩ : ∃ x, evAt l i = x := ⟨_, rfl⟩
  obtain ⟨y, hy⟩ : ∃ y, evAt l j = y := ⟨_, rfl⟩
  rw [hx] at rgi
  rw [hy] at rgj
  have RG := hid (And.intro rgi rgj)
  have xsz := ev_size x
  have x1 : (evC x).toArray.all (·.oneCell') = true := by simp [evC, Value.oneCell']
  have ysz := ev_size y
  have y1 : (evC y).toArray.all (·.oneCell') = true := by simp [evC, Value.oneCell']
  have l0 : (i : Int) < (l.length : Int) := by omega
  have l1 : (j : Int) < (l.length : Int) := by omega
  have HXY := hid (And.intro hx hy)
  have HKS := hid (show ∀ wx, Keep (· < w.heap.size) w wx → wx.rangeAt blk (off + i * 4) (evC x) ∧ wx.rangeAt blk (off + j * 4) (evC y) from fun wx k => ⟨fun q u hu => (k.cell (x := ⟨blk, off + i * 4 + q, none⟩) hblk).trans (rgi q u hu), fun q u hu => (k.cell (x := ⟨blk, off + j * 4 + q, none⟩) hblk).trans (rgj q u hu)⟩)
  clear hv hr rgi rgj hx hy
  go_enter Tryd.func31, Tryd.ntmps31
  go_upto_region 1 with fail
  go_cut [9, 10] (fun s9 s10 wx => ∃ A B, s9 = .pointer (some ⟨A, 0, none⟩) ∧ s10 = .pointer (some ⟨B, 0, none⟩) ∧ wx.heap[A]? = some (.cells (evC x).toArray 25 (0, 0)) ∧ wx.heap[B]? = some (.cells (evC y).toArray 25 (0, 0)) ∧ Keep (· < w.heap.size) w wx)
  case first =>
    refine wp_region_plan [true, true, true, true, true, true, true, true, false, false, false, false] (.free 0 (.free 1 (.free 2 (.free 3 (.free 4 (.free 5 (.free 6 (.free 7 (.alt (.one 8 (.one 9 (.one 10 (.last 11)))) (.one 9 (.one 8 (.one 10 (.last 11))))))))))))) (fun wx => wx.rangeAt blk (off + i * 4) (evC x) ∧ wx.rangeAt blk (off + j * 4) (evC y)) (by kernel_rfl) (by kernel_rfl) (RG.out) ?_
    iterate 3 (refine plan_free rfl rfl (fun K hK => ?_); go_simp; refine hK _ ?_; clear hK K)
    refine plan_load rfl rfl 25 (.tmp 15) rfl blk (off + i * 4) rfl (evC x) _ (fun w0 h0 => h0.1) Tryd.underlying25 rfl xsz (fun K hK => ?_); refine hK _ ?_; clear hK K
    iterate 3 (refine plan_free rfl rfl (fun K hK => ?_); go_simp; refine hK _ ?_; clear hK K)
    refine plan_load rfl rfl 25 (.tmp 19) rfl blk (off + j * 4) rfl (evC y) _ (fun w0 h0 => h0.2) Tryd.underlying25 rfl ysz (fun K hK => ?_); refine hK _ ?_; clear hK K
    refine ⟨?_, ?_⟩
    · have k1 : Keep (· < w.heap.size) w (w.alloc (Obj.cells #[Value.int IntKind.i64 0, Value.int IntKind.i64 0, Value.int IntKind.i64 0, Value.int IntKind.i64 0] 25)) := (Keep.refl _ _).alloc _ (fun _ h => h)
      have k2 : Keep (· < w.heap.size + 1) (w.alloc (Obj.cells #[Value.int IntKind.i64 0, Value.int IntKind.i64 0, Value.int IntKind.i64 0, Value.int IntKind.i64 0] 25)) ((w.alloc (Obj.cells #[Value.int IntKind.i64 0, Value.int IntKind.i64 0, Value.int IntKind.i64 0, Value.int IntKind.i64 0] 25)).alloc (Obj.cells #[Value.int IntKind.i64 0, Value.int IntKind.i64 0, Value.int IntKind.i64 0, Value.int IntKind.i64 0] 25)) := (Keep.refl _ _).alloc _ (fun _ h => by rw [World.size_alloc]; exact h)
      have hz1 : (w.alloc (Obj.cells #[Value.int IntKind.i64 0, Value.int IntKind.i64 0, Value.int IntKind.i64 0, Value.int IntKind.i64 0] 25)).heap[w.heap.size]? = some (.cells #[.int .i64 0, .int .i64 0, .int .i64 0, .int .i64 0] 25 (0, 0)) := heap_alloc_new w _
      have hz2 : ((w.alloc (Obj.cells #[Value.int IntKind.i64 0, Value.int IntKind.i64 0, Value.int IntKind.i64 0, Value.int IntKind.i64 0] 25)).alloc (Obj.cells #[Value.int IntKind.i64 0, Value.int IntKind.i64 0, Value.int IntKind.i64 0, Value.int IntKind.i64 0] 25)).heap[w.heap.size + 1]? = some (.cells #[.int .i64 0, .int .i64 0, .int .i64 0, .int .i64 0] 25 (0, 0)) := by have := heap_alloc_new (w.alloc (Obj.cells #[Value.int IntKind.i64 0, Value.int IntKind.i64 0, Value.int IntKind.i64 0, Value.int IntKind.i64 0] 25)) (Obj.cells #[Value.int IntKind.i64 0, Value.int IntKind.i64 0, Value.int IntKind.i64 0, Value.int IntKind.i64 0] 25); rw [World.size_alloc] at this; exact this
      have HZ := hid (And.intro ((k2.block _ (by omega)).trans hz1) (And.intro hz2 (k1.trans (k2.mono fun b hb => by omega))))
      have HK1 := hid k1
      clear k1 k2 hz1 hz2
      refine plan_one rfl rfl (fun K hK => ?_); go_simp
      refine hK _ _ ⟨HKS.out _ HK1.out.drew, ?_⟩; clear hK K
      refine plan_one rfl rfl (fun K hK => ?_); go_simp
      refine hK _ _ ⟨HKS.out _ HZ.out.2.2.drew, ?_⟩; clear hK K
      refine plan_world (fun wx => Keep (· < w.heap.size) w wx ∧ wx.heap[w.heap.size]? = some (.cells #[.int .i64 0, .int .i64 0, .int .i64 0, .int .i64 0] 25 (0, 0)) ∧ wx.heap[w.heap.size + 1]? = some (.cells #[.int .i64 0, .int .i64 0, .int .i64 0, .int .i64 0] 25 (0, 0))) ⟨HZ.out.2.2.drew, HZ.out.1, HZ.out.2.1⟩ ?_
      rintro w3 ⟨k3, za, zb⟩
      obtain ⟨M, hM⟩ : ∃ M, w.heap.size = M := ⟨_, rfl⟩
      rw [hM] at za zb
      rw [hM]
      have hMl : M < w3.heap.size := (Array.getElem?_eq_some_iff.1 za).1
      refine plan_store_row rfl rfl 25 (.tmp 9) (.tmp 16) rfl (M) (evC x).toArray rfl rfl 25 _ za (by rw [List.size_toArray]; exact xsz) rfl x1 ⟨HKS.out _ (k3.setRow (b := M) _ (fun h => by have h : M < w.heap.size := h; omega)), ?_⟩
      refine plan_last rfl rfl (fun K hK => wp_store_row 25 (.tmp 10) (.tmp 20) rfl (M + 1) (evC y).toArray rfl rfl 25 _ ((setRow_other _ _ _ _ (by omega)).trans zb) (by rw [List.size_toArray]; exact ysz) rfl y1 (hK _ _ ?_)); clear hK K
      go_wp2_with fail
      go_meet
      exact ⟨_, _, rfl, rfl, (setRow_other _ _ _ _ (by omega)).trans (heap_setRow za _), heap_setRow ((setRow_other _ _ _ _ (by omega)).trans zb) _, (k3.setRow (b := M) _ (fun h => by have h : M < w.heap.size := h; omega)).setRow (b := M + 1) _ (fun h => by have h : M + 1 < w.heap.size := h; omega)⟩
    · have k1 : Keep (· < w.heap.size) w (w.alloc (Obj.cells #[Value.int IntKind.i64 0, Value.int IntKind.i64 0, Value.int IntKind.i64 0, Value.int IntKind.i64 0] 25)) := (Keep.refl _ _).alloc _ (fun _ h => h)
      have k2 : Keep (· < w.heap.size + 1) (w.alloc (Obj.cells #[Value.int IntKind.i64 0, Value.int IntKind.i64 0, Value.int IntKind.i64 0, Value.int IntKind.i64 0] 25)) ((w.alloc (Obj.cells #[Value.int IntKind.i64 0, Value.int IntKind.i64 0, Value.int IntKind.i64 0, Value.int IntKind.i64 0] 25)).alloc (Obj.cells #[Value.int IntKind.i64 0, Value.int IntKind.i64 0, Value.int IntKind.i64 0, Value.int IntKind.i64 0] 25)) := (Keep.refl _ _).alloc _ (fun _ h => by rw [World.size_alloc]; exact h)
      have hz1 : (w.alloc (Obj.cells #[Value.int IntKind.i64 0, Value.int IntKind.i64 0, Value.int IntKind.i64 0, Value.int IntKind.i64 0] 25)).heap[w.heap.size]? = some (.cells #[.int .i64 0, .int .i64 0, .int .i64 0, .int .i64 0] 25 (0, 0)) := heap_alloc_new w _
      have hz2 : ((w.alloc (Obj.cells #[Value.int IntKind.i64 0, Value.int IntKind.i64 0, Value.int IntKind.i64 0, Value.int IntKind.i64 0] 25)).alloc (Obj.cells #[Value.int IntKind.i64 0, Value.int IntKind.i64 0, Value.int IntKind.i64 0, Value.int IntKind.i64 0] 25)).heap[w.heap.size + 1]? = some (.cells #[.int .i64 0, .int .i64 0, .int .i64 0, .int .i64 0] 25 (0, 0)) := by have := heap_alloc_new (w.alloc (Obj.cells #[Value.int IntKind.i64 0, Value.int IntKind.i64 0, Value.int IntKind.i64 0, Value.int IntKind.i64 0] 25)) (Obj.cells #[Value.int IntKind.i64 0, Value.int IntKind.i64 0, Value.int IntKind.i64 0, Value.int IntKind.i64 0] 25); rw [World.size_alloc] at this; exact this
      have HZ := hid (And.intro ((k2.block _ (by omega)).trans hz1) (And.intro hz2 (k1.trans (k2.mono fun b hb => by omega))))
      have HK1 := hid k1
      clear k1 k2 hz1 hz2
      refine plan_one rfl rfl (fun K hK => ?_); go_simp
      refine hK _ _ ⟨HKS.out _ HK1.out.drew, ?_⟩; clear hK K
      refine plan_one rfl rfl (fun K hK => ?_); go_simp
      refine hK _ _ ⟨HKS.out _ HZ.out.2.2.drew, ?_⟩; clear hK K
      refine plan_world (fun wx => Keep (· < w.heap.size) w wx ∧ wx.heap[w.heap.size]? = some (.cells #[.int .i64 0, .int .i64 0, .int .i64 0, .int .i64 0] 25 (0, 0)) ∧ wx.heap[w.heap.size + 1]? = some (.cells #[.int .i64 0, .int .i64 0, .int .i64 0, .int .i64 0] 25 (0, 0))) ⟨HZ.out.2.2.drew, HZ.out.1, HZ.out.2.1⟩ ?_
      rintro w3 ⟨k3, za, zb⟩
      obtain ⟨M, hM⟩ : ∃ M, w.heap.size = M := ⟨_, rfl⟩
      rw [hM] at za zb
      rw [hM]
      have hMl : M < w3.heap.size := (Array.getElem?_eq_some_iff.1 za).1
      refine plan_store_row rfl rfl 25 (.tmp 9) (.tmp 16) rfl (M + 1) (evC x).toArray rfl rfl 25 _ zb (by rw [List.size_toArray]; exact xsz) rfl x1 ⟨HKS.out _ (k3.setRow (b := M + 1) _ (fun h => by have h : M + 1 < w.heap.size := h; omega)), ?_⟩
      refine plan_last rfl rfl (fun K hK => wp_store_row 25 (.tmp 10) (.tmp 20) rfl (M) (evC y).toArray rfl rfl 25 _ ((setRow_other _ _ _ _ (by omega)).trans za) (by rw [List.size_toArray]; exact ysz) rfl y1 (hK _ _ ?_)); clear hK K
      go_wp2_with fail
      go_meet
      exact ⟨_, _, rfl, rfl, (setRow_other _ _ _ _ (by omega)).trans (heap_setRow zb _), heap_setRow ((setRow_other _ _ _ _ (by omega)).trans za) _, (k3.setRow (b := M + 1) _ (fun h => by have h : M + 1 < w.heap.size := h; omega)).setRow (b := M) _ (fun h => by have h : M < w.heap.size := h; omega)⟩
  case rest =>
    obtain ⟨A, B, rfl, rfl, hA, hB, kc⟩ := hcut
    obtain ⟨g, kd, ob, a⟩ := x
    obtain ⟨g', kd', ob', a'⟩ := y
    have a0 : wc.cell? ⟨A, 0, none⟩ = some (.int .i64 g) := cell_at hA 0
    have a1 : wc.cell? ⟨A, 1, none⟩ = some (.int .i64 kd) := cell_at hA 1
    have a2 : wc.cell? ⟨A, 2, none⟩ = some (.int .i64 ob) := cell_at hA 2
    have b0 : wc.cell? ⟨B, 0, none⟩ = some (.int .i64 g') := cell_at hB 0
    have b1 : wc.cell? ⟨B, 1, none⟩ = some (.int .i64 kd') := cell_at hB 1
    have b2 : wc.cell? ⟨B, 2, none⟩ = some (.int .i64 ob') := cell_at hB 2
    have HC := hid (And.intro kc (And.intro (hA) hB))
    have HD := hid (direct_eq (rooms := rooms) HXY.out.1 HXY.out.2)
    have HLA := hid (And.intro (Array.getElem?_eq_some_iff.1 hA).1 (Array.getElem?_eq_some_iff.1 hB).1)
    rw [HDV.out] at HD
    clear hA hB kc xsz x1 ysz y1 RG HKS
    by_cases hg : g = g'
    · subst hg
      have t0 : (g == g) = true := by simp
      obtain rfl : D = true := by have := HD.out; simpa using this
      go_wp2_with fail
      go_ret
      exact ⟨rfl, HC.out.1⟩
    have t0 : (g == g') = false := by simp [hg]
    by_cases hgo : kd = 10 ∧ ob = g'
    · obtain ⟨rfl, rfl⟩ := hgo
      obtain rfl : D = true := by have := HD.out; simpa using this
      go_wp2_with fail
      go_ret
      exact ⟨rfl, HC.out.1⟩
    have HGO := hid hgo
    obtain ⟨R, hRR⟩ : ∃ R, roomOf rooms ob = R := ⟨_, rfl⟩
    have HD2 := hid (show D = (backB rooms l i g' || (decide (ob = ob') && ((decide (kd = 4) && decide (kd' = 3)) || (atmB kd && atmB kd') || (decide (kd = 5) && decide (kd' = 6) && decide (whichP l i = whichP l j)) ||
        (decide (kd = 6) && decide (kd' = 5) && (decide (0 < R) && decide (R ≤ whichP l j) && decide (whichP l j - R = whichP l i)))))) by
      rw [HD.out, hRR, decide_eq_false hg]
      have : (decide (kd = 10) && decide (ob = g')) = false := by rw [← Bool.not_eq_true, Bool.and_eq_true, decide_eq_true_eq, decide_eq_true_eq]; exact hgo
      rw [this]; rfl)
    have HRR := hid hRR
    clear HD hRR
    have hpre : (kd = 10 ∧ (ob == g') = false) ∨ (kd == 10) = false := by
      by_cases h1 : kd = 10
      · exact .inl ⟨h1, by simp; exact fun h => hgo ⟨h1, h⟩⟩
      · exact .inr (by simp [h1])
    clear hgo hg
    go_upto_region 2 with fail
    go_cut [37] (fun s37 wx => s37 = .bool false ∧ wx = wc)
    case first =>
      rcases hpre with ⟨h1, h2⟩ | h1
      · subst h1
        go_wp2_with fail
        go_meet
        exact ⟨rfl, rfl⟩
      · go_wp2_with fail
        go_meet
        exact ⟨rfl, rfl⟩
    case rest =>
    obtain ⟨rfl, rfl⟩ := hcut
    clear hpre
    have hroom : (¬ (0 ≤ ob ∧ ob < (rooms.length : Int)) ∧ R = 0) ∨ ∃ (o : Nat) (z : Int), ob = (o : Int) ∧ o < rooms.length ∧ rooms[o]? = some z ∧ (if 0 < z then R = z.toNat else R = 0) := by
      have hr := HRR.out
      unfold roomOf at hr
      by_cases h : 0 ≤ ob ∧ ob < (rooms.length : Int)
      · right
        obtain ⟨o, rfl⟩ := Int.eq_ofNat_of_zero_le h.1
        have ho : o < rooms.length := by omega
        refine ⟨o, rooms[o], rfl, ho, List.getElem?_eq_getElem ho, ?_⟩
        rw [if_neg (by omega), List.getD_eq_getElem?_getD, Int.toNat_natCast, List.getElem?_eq_getElem ho] at hr
        simp only [Option.getD_some] at hr
        split <;> omega
      · refine .inl ⟨h, ?_⟩
        split at hr
        · exact hr.symm
        · rw [List.getD_eq_getElem?_getD, List.getElem?_eq_none (by omega)] at hr
          exact hr.symm
    go_upto_region 5 with fail
    go_cut [55] (fun s55 wx => s55 = .bool (decide (0 < R)) ∧ wx = wc)
    case first =>
      rcases hroom with ⟨h1, rfl⟩ | ⟨o, z, rfl, ho, hz, hRz⟩
      · by_cases h2 : 0 ≤ ob
        · have t1 : decide (0 ≤ ob) = true := by simp [h2]
          have t2 : decide (ob < (rooms.length : Int)) = false := by simp; omega
          go_wp2_with fail
          go_meet
          exact ⟨rfl, rfl⟩
        · have t1 : decide (0 ≤ ob) = false := by simp [h2]
          go_wp2_with fail
          go_meet
          exact ⟨rfl, rfl⟩
      · have hrc := HR.out.keep HC.out.1 (fun _ h => h)
        obtain ⟨rb, ro, rfl, _, hcell⟩ := cells_blk hrc (by rw [List.length_map]; omega)
        have hz1 : wc.cell? ⟨rb, ro + o, none⟩ = some (.int .i64 z) := by rw [hcell o (by rw [List.length_map]; exact ho), List.getElem?_map, hz]; rfl
        have t2 : (o : Int) < (rooms.length : Int) := by omega
        have t3 : decide (0 < z) = decide (0 < R) := by split at hRz <;> simp <;> omega
        clear hrc hcell hz hRz
        obtain ⟨d, hd⟩ : ∃ d, decide (0 < R) = d := ⟨_, rfl⟩
        rw [hd] at t3
        have HDD := hid hd
        clear hd
        go_wp2_with fail
        go_meet
        exact ⟨by rw [HDD.out], rfl⟩
    case rest =>
    obtain ⟨rfl, rfl⟩ := hcut
    go_upto_if 55 with fail
    go_cut [11] (fun s11 wx => s11 = .int .i64 (R : Int) ∧ wx = wc)
    case first =>
      by_cases h3 : 0 < R
      · rcases hroom with ⟨_, h⟩ | ⟨o, z, rfl, ho, hz, hRz⟩
        · omega
        have hzR : z = (R : Int) := by split at hRz <;> omega
        subst hzR
        have hrc := HR.out.keep HC.out.1 (fun _ h => h)
        obtain ⟨rb, ro, rfl, _, hcell⟩ := cells_blk hrc (by rw [List.length_map]; omega)
        have hz1 : wc.cell? ⟨rb, ro + o, none⟩ = some (.int .i64 (R : Int)) := by rw [hcell o (by rw [List.length_map]; exact ho), List.getElem?_map, hz]; rfl
        have t2 : (o : Int) < (rooms.length : Int) := by omega
        have t4 : decide (0 < R) = true := by simp [h3]
        clear hrc hcell hz hRz
        go_wp2_with fail
        go_meet
        exact ⟨rfl, rfl⟩
      · obtain rfl : R = 0 := by omega
        have t4 : decide (0 < 0) = false := by simp
        go_wp2_with fail
        go_meet
        exact ⟨rfl, rfl⟩
    case rest =>
    obtain ⟨rfl, rfl⟩ := hcut
    have hr8 : R ≤ 9223372036854775807 := by
      rcases hroom with ⟨_, h⟩ | ⟨o, z, _, _, hz, hRz⟩
      · omega
      · have := HRW.out z (List.mem_of_getElem? hz)
        split at hRz <;> omega
    clear hroom
    refine ‹∀ (a : Act) (w : World), Code.wp _ _ _ a w → _› _ _ ?_
    exact dir_b hi hj hl hc1 hc2 hr8 HV.out rfl rfl HC.out.2.1 HC.out.2.2 HC.out.1 HXY.out.1 HRR.out HD2.out
end Go.Proofs.YtalihehmbiohlaaDoor
