/-
  Step by step: a round of the inner loop of Races.
-/
import Derived.Test.YtalihehmbiohlaaDoorOrdJ
namespace Go.Proofs.YtalihehmbiohlaaDoor
open Go.RowKit Go.Maps Go.Proofs.Mem Go.Proofs.Txt Go.Proofs.Ord Go.Proofs.Mp

/-- the bodies of a code's loops, the outer ones first. -/
def loopsOf : Code → List Code
  | .loop c => c :: loopsOf c
  | .seq a b => loopsOf a ++ loopsOf b
  | .block _ c => loopsOf c
  | .scope c => loopsOf c
  | .cond _ a b => loopsOf a ++ loopsOf b
  | _ => []
noncomputable def racesBody (k : Nat) : Code := ((Tryd.f10.body.map loopsOf).getD []).getD k .skip
theorem rchk {wr wx wy : World} {X A : Nat} {c d : List Value} {T : TypeId} (h1 : wx.heap[X]? = some (.cells c.toArray T (0, 0))) (h2 : wx.heap[A]? = some (.cells d.toArray T (0, 0))) (h3 : Keep (· < wr.heap.size) wr wx) (k : Keep (· < wx.heap.size) wx wy) :
    wy.heap[X]? = some (.cells c.toArray T (0, 0)) ∧ wy.heap[A]? = some (.cells d.toArray T (0, 0)) ∧ Keep (· < wr.heap.size) wr wy :=
  ⟨(k.block X (Array.getElem?_eq_some_iff.1 h1).1).trans h1, (k.block A (Array.getElem?_eq_some_iff.1 h2).1).trans h2, h3.trans (k.mono fun b hb => Nat.lt_of_lt_of_le hb h3.size)⟩
theorem rchkT {wr wx wy : World} {X A : Nat} {c d : List Value} {T : TypeId} (h1 : wx.heap[X]? = some (.cells c.toArray T (0, 0))) (h2 : wx.heap[A]? = some (.cells d.toArray T (0, 0))) (h3 : Keep (· < wr.heap.size) wr wx) (k : Keep (fun _ => True) wx wy) :
    wy.heap[X]? = some (.cells c.toArray T (0, 0)) ∧ wy.heap[A]? = some (.cells d.toArray T (0, 0)) ∧ Keep (· < wr.heap.size) wr wy := rchk h1 h2 h3 (k.mono fun _ _ => trivial)

set_option maxRecDepth 1000000 in
set_option maxHeartbeats 8000000 in
theorem races_round {s1 s2 s3 s4 s5 s7 s8 s9 s14 s15 s16 s17 s18 s19 s20 s21 s22 s23 s24 s25 s26 s27 s28 s29 s30 s31 s32 s33 s34 s35 s36 s37 s38 s39 s40 s41 s42 s43 s44 s45 s46 s47 s48 s49 s50 s51 s52 s53 s57 s58 s59 s60 s61 s62 s63 s64 s65 s66 s67 s68 s69 s70 s71 s72 s73 s74 s75 s76 s77 s78 s79 s80 s81 s82 s83 s84 s85 s86 s87 s88 s89 s90 s91 s92 s93 s94 s95 s96 s97 s98 s99 s100 s101 s102 s103 s104 s105 s106 s107 s108 s109 s110 s111 s112 s113 s114 s115 s116 s117 s118 s119 s120 s121 s122 s123 s124 s125 s126 s127 s128 s129 s130 s131 s132 s133 s134 s135 s136 s137 s138 s139 s140 s141 s142 s143 s144 s145 s146 : Value} {rooms : List Int} {l : List Ev} {tb t0 tc cc E A sb so sc n i j k Z : Nat} {ca : Option Addr} {sv : Value} {ks : List Nat} {wr : World} {p q r : Nat → Prop} {K : Act → World → Prop} {Q0 : Exit → Act → World → Prop}
    (hv : EvsAt wr p (.slice (some ⟨tb, t0, none⟩) l.length tc) l) (hc : ClksAt wr q (.slice ca l.length cc) l.length (clockAt rooms l)) (hok : ∀ e ∈ l, e.ok = true) (hA : wr.heap[A]? = some (.cells (acC (evAt l i) i).toArray 60 (0, 0)))
    (hs : AtS wr r 5 (.slice (some ⟨sb, so, none⟩) n sc) (acs l ks)) (hn : ks.length = n) (hj : j < n) (hk : ks[j]? = some k) (hkl : k < l.length) (hil : i < l.length) (hn5 : n ≤ 1000)
    (hl : OwnS Z wr 60 5 sv (acs l ((ks.take j).filter (races rooms l i)))) (hZ : Z ≤ wr.heap.size)
    (hK : ∀ (v15 v57 v58 v59 v60 v61 v62 v63 v64 v65 v66 v67 v68 v69 v70 v71 v72 v73 v74 v75 v76 v77 v78 v79 v80 v81 v82 v83 v84 v85 v86 v87 v88 : Value) (sv2 : Value) (wx : World), OwnS Z wx 60 5 sv2 (acs l ((ks.take (j + 1)).filter (races rooms l i))) → Keep (fun b => b < wr.heap.size ∧ sv.ownBlock ≠ some b) wr wx → (∀ b, sv2.ownBlock = some b → sv.ownBlock = some b ∨ wr.heap.size ≤ b) → K ⟨#[.slice (some ⟨tb, t0, none⟩) l.length tc, s1, s2, s3, s4, s5, .slice ca l.length cc, s7, s8, s9, .int .i64 (i : Int), .pointer (some ⟨E, 0, none⟩), .pointer (some ⟨A, 0, none⟩), sv2, s14, v15, s16, s17, s18, s19, s20, s21, s22, s23, s24, s25, s26, s27, s28, s29, s30, s31, s32, s33, s34, s35, s36, s37, s38, s39, s40, s41, s42, s43, s44, s45, s46, s47, s48, s49, s50, s51, s52, s53, .slice (some ⟨sb, so, none⟩) n sc, .int .i64 (n : Int), .int .i64 ((j + 1 : Nat) : Int), v57, v58, v59, v60, v61, v62, v63, v64, v65, v66, v67, v68, v69, v70, v71, v72, v73, v74, v75, v76, v77, v78, v79, v80, v81, v82, v83, v84, v85, v86, v87, v88, s89, s90, s91, s92, s93, s94, s95, s96, s97, s98, s99, s100, s101, s102, s103, s104, s105, s106, s107, s108, s109, s110, s111, s112, s113, s114, s115, s116, s117, s118, s119, s120, s121, s122, s123, s124, s125, s126, s127, s128, s129, s130, s131, s132, s133, s134, s135, s136, s137, s138, s139, s140, s141, s142, s143, s144, s145, s146], []⟩ wx) :
    Code.wp Tryd.prog (racesBody 1) (Exit.then K Q0) ⟨#[.slice (some ⟨tb, t0, none⟩) l.length tc, s1, s2, s3, s4, s5, .slice ca l.length cc, s7, s8, s9, .int .i64 (i : Int), .pointer (some ⟨E, 0, none⟩), .pointer (some ⟨A, 0, none⟩), sv, s14, s15, s16, s17, s18, s19, s20, s21, s22, s23, s24, s25, s26, s27, s28, s29, s30, s31, s32, s33, s34, s35, s36, s37, s38, s39, s40, s41, s42, s43, s44, s45, s46, s47, s48, s49, s50, s51, s52, s53, .slice (some ⟨sb, so, none⟩) n sc, .int .i64 (n : Int), .int .i64 (j : Int), s57, s58, s59, s60, s61, s62, s63, s64, s65, s66, s67, s68, s69, s70, s71, s72, s73, s74, s75, s76, s77, s78, s79, s80, s81, s82, s83, s84, s85, s86, s87, s88, s89, s90, s91, s92, s93, s94, s95, s96, s97, s98, s99, s100, s101, s102, s103, s104, s105, s106, s107, s108, s109, s110, s111, s112, s113, s114, s115, s116, s117, s118, s119, s120, s121, s122, s123, s124, s125, s126, s127, s128, s129, s130, s131, s132, s133, s134, s135, s136, s137, s138, s139, s140, s141, s142, s143, s144, s145, s146], []⟩ wr := by
  have HK := hid hK
  have hjk : j < ks.length := by omega
  have HF := hid (show (ks.take (j + 1)).filter (races rooms l i) = (ks.take j).filter (races rooms l i) ++ (if races rooms l i k = true then [k] else []) by
    rw [List.take_succ_eq_append_getElem hjk, List.filter_append]
    rw [List.getElem?_eq_getElem hjk] at hk
    injection hk with hk
    rw [hk]
    simp only [List.filter_cons, List.filter_nil])
  have hlen5 : ((ks.take j).filter (races rooms l i)).length ≤ 1000 := Nat.le_trans (List.length_filter_le _ _) (by rw [List.length_take]; omega)
  have HS := hid (And.intro hl (And.intro (show ((ks.take j).filter (races rooms l i)).length ≤ 1000000 by omega) hZ))
  obtain ⟨b', o', e, _, hrg⟩ := hs.get j (x := acC (evAt l k) k) (by simp [acs, hk])
  injection e with e
  injection e with e1 e2
  subst e1 e2
  have hke : 0 ≤ (evAt l k).g ∧ (evAt l k).g < 8 := by
    have := hok _ (List.getElem_mem (l := l) (n := k) hkl)
    rw [evAt_get l k hkl]
    simp [Ev.ok] at this; omega
  have HAH0 := hid (fun (wx : World) (kx : Keep (· < wr.heap.size) wr wx) => ahead_walk l (clockAt rooms l) _ _ wx _ _ (hv.lt.keep kx (fun b hb => hb.1)) (hc.lt.keep kx (fun b hb => hb.1)) k i hkl hil hke.1 hke.2)
  have HAH := hid (show ∀ wx : World, Keep (· < wr.heap.size) wr wx → Calls Tryd.prog 24 #[.slice (some ⟨tb, t0, none⟩) l.length tc, .slice ca l.length cc, .int .i64 (k : Int), .int .i64 (i : Int)] wx fun e w' => e = .returned (.bool (aheadB rooms l k i)) ∧ Keep (fun _ => True) wx w' from HAH0.out)
  obtain ⟨ek, hek⟩ : ∃ e, evAt l k = e := ⟨_, rfl⟩
  obtain ⟨ei, hei⟩ : ∃ e, evAt l i = e := ⟨_, rfl⟩
  rw [hek] at hrg
  rw [hei] at hA
  have HE1 := hid hek
  have HE2 := hid hei
  obtain ⟨g1, d1, o1, a1⟩ := ek
  obtain ⟨g2, d2, o2, a2⟩ := ei
  have HA := hid hA
  have RK := hid hrg
  have l0 : (j : Int) < (n : Int) := by omega
  clear hK hv hc hok hA hs hk hl hZ hn hek hei hke HAH0 hrg hlen5 hjk hj hkl hil
  conv => arg 2; whnf
  go_upto_region 15 with (first
    | (refine wpList_load_mid rfl 60 (.tmp 58) rfl sb (so + j * 5) rfl (acC ⟨g1, d1, o1, a1⟩ k) _ RK.out Tryd.underlying60 rfl (ac_size _ _) ?_)
    | (refine wpList_store_row rfl 60 (.tmp 15) (.tmp 59) rfl wr.heap.size (acC ⟨g1, d1, o1, a1⟩ k).toArray rfl rfl 60 _ (heap_alloc_new wr _) (by rw [List.size_toArray]; exact ac_size _ _) rfl (ac_one _ _) ?_))
  refine wp_world (fun wx => Keep (· < wr.heap.size) wr wx ∧ wx.heap[wr.heap.size]? = some (.cells (acC ⟨g1, d1, o1, a1⟩ k).toArray 60 (0, 0))) ⟨((Keep.refl _ _).alloc _ (fun _ h => h)).setRow _ (by simp), heap_setRow (heap_alloc_new wr _) _⟩ ?_
  rintro wa ⟨ka, hxa⟩
  obtain ⟨X, hX⟩ : ∃ X, wr.heap.size = X := ⟨_, rfl⟩
  have HT := hid (show wa.heap[wr.heap.size]? = some (.cells (acC ⟨g1, d1, o1, a1⟩ k).toArray 60 (0, 0)) ∧ wa.heap[A]? = some (.cells (acC ⟨g2, d2, o2, a2⟩ i).toArray 60 (0, 0)) ∧ Keep (· < wr.heap.size) wr wa from ⟨hxa, (ka.block A (Array.getElem?_eq_some_iff.1 HA.out).1).trans HA.out, ka⟩)
  have hXX : wa.heap[X]? = some (.cells (acC ⟨g1, d1, o1, a1⟩ k).toArray 60 (0, 0)) := by rw [← hX]; exact hxa
  have HT0 := HT
  have HT := hid (And.intro hXX (And.intro HT0.out.2.1 HT0.out.2.2))
  rw [hX]
  clear ka hxa hX hXX HT0 HA RK
  have ca0 : wa.cell? ⟨X, 0, none⟩ = some (.int .i64 g1) := cell_at HT.out.1 0
  have ca1 : wa.cell? ⟨X, 1, none⟩ = some (.int .i64 d1) := cell_at HT.out.1 1
  have ca2 : wa.cell? ⟨X, 2, none⟩ = some (.int .i64 o1) := cell_at HT.out.1 2
  have ca3 : wa.cell? ⟨X, 3, none⟩ = some (.int .i64 a1) := cell_at HT.out.1 3
  have ca4 : wa.cell? ⟨X, 4, none⟩ = some (.int .i64 (k : Int)) := cell_at HT.out.1 4
  have cb0 : wa.cell? ⟨A, 0, none⟩ = some (.int .i64 g2) := cell_at HT.out.2.1 0
  have cb1 : wa.cell? ⟨A, 1, none⟩ = some (.int .i64 d2) := cell_at HT.out.2.1 1
  have cb2 : wa.cell? ⟨A, 2, none⟩ = some (.int .i64 o2) := cell_at HT.out.2.1 2
  have cb3 : wa.cell? ⟨A, 3, none⟩ = some (.int .i64 a2) := cell_at HT.out.2.1 3
  have cb4 : wa.cell? ⟨A, 4, none⟩ = some (.int .i64 (i : Int)) := cell_at HT.out.2.1 4
  by_cases hg : g1 = g2
  · have hne : (g1 != g2) = false := by simp [hg]
    have HB2 := hid (show races rooms l i k = false from by unfold races; rw [HE1.out, HE2.out, hne]; simp)
    clear hg
    go_wp2_with fail
    refine HK.out _ _ _ _ _ _ _ _ _ _ _ _ _ _ _ _ _ _ _ _ _ _ _ _ _ _ _ _ _ _ _ _ _ sv wa ?_ (HT.out.2.2.mono (fun b hb => hb.1)) (fun b hb => .inl hb)
    rw [HF.out, HB2.out, if_neg (by simp), List.append_nil]; exact HS.out.1.keep HT.out.2.2 (fun b hb => (HS.out.1.lt hb).2)
  · have hne : (g1 != g2) = true := by simp [hg]
    cases hwk : Ev.wr ⟨g1, d1, o1, a1⟩
    · cases hwi : Ev.wr ⟨g2, d2, o2, a2⟩
      · have HWK := hid (show Ev.wr ⟨g1, d1, o1, a1⟩ = false from hwk)
        have HWI := hid (show Ev.wr ⟨g2, d2, o2, a2⟩ = false from hwi)
        have HB2 := hid (show races rooms l i k = false from by unfold races; rw [HE1.out, HE2.out, hne, hwk, hwi]; simp)
        clear hg hwk hwi
        go_wp2_with fail
        refine (writes_walk ⟨g1, d1, o1, a1⟩ k _).mono ?_
        rintro e wn5 ⟨rfl, kn⟩
        rw [HWK.out]
        have HT5 := hid (rchk HT.out.1 HT.out.2.1 HT.out.2.2 kn)
        clear HT kn ca0 ca1 ca2 ca3 ca4 cb0 cb1 cb2 cb3 cb4
        have HT := HT5
        clear HT5
        have ca0 : wn5.cell? ⟨X, 0, none⟩ = some (.int .i64 g1) := cell_at HT.out.1 0
        have ca1 : wn5.cell? ⟨X, 1, none⟩ = some (.int .i64 d1) := cell_at HT.out.1 1
        have ca2 : wn5.cell? ⟨X, 2, none⟩ = some (.int .i64 o1) := cell_at HT.out.1 2
        have ca3 : wn5.cell? ⟨X, 3, none⟩ = some (.int .i64 a1) := cell_at HT.out.1 3
        have ca4 : wn5.cell? ⟨X, 4, none⟩ = some (.int .i64 (k : Int)) := cell_at HT.out.1 4
        have cb0 : wn5.cell? ⟨A, 0, none⟩ = some (.int .i64 g2) := cell_at HT.out.2.1 0
        have cb1 : wn5.cell? ⟨A, 1, none⟩ = some (.int .i64 d2) := cell_at HT.out.2.1 1
        have cb2 : wn5.cell? ⟨A, 2, none⟩ = some (.int .i64 o2) := cell_at HT.out.2.1 2
        have cb3 : wn5.cell? ⟨A, 3, none⟩ = some (.int .i64 a2) := cell_at HT.out.2.1 3
        have cb4 : wn5.cell? ⟨A, 4, none⟩ = some (.int .i64 (i : Int)) := cell_at HT.out.2.1 4
        go_wp2_with fail
        refine (writes_walk ⟨g2, d2, o2, a2⟩ i _).mono ?_
        rintro e wn6 ⟨rfl, kn⟩
        rw [HWI.out]
        have HT6 := hid (rchk HT.out.1 HT.out.2.1 HT.out.2.2 kn)
        clear HT kn ca0 ca1 ca2 ca3 ca4 cb0 cb1 cb2 cb3 cb4
        have HT := HT6
        clear HT6
        have ca0 : wn6.cell? ⟨X, 0, none⟩ = some (.int .i64 g1) := cell_at HT.out.1 0
        have ca1 : wn6.cell? ⟨X, 1, none⟩ = some (.int .i64 d1) := cell_at HT.out.1 1
        have ca2 : wn6.cell? ⟨X, 2, none⟩ = some (.int .i64 o1) := cell_at HT.out.1 2
        have ca3 : wn6.cell? ⟨X, 3, none⟩ = some (.int .i64 a1) := cell_at HT.out.1 3
        have ca4 : wn6.cell? ⟨X, 4, none⟩ = some (.int .i64 (k : Int)) := cell_at HT.out.1 4
        have cb0 : wn6.cell? ⟨A, 0, none⟩ = some (.int .i64 g2) := cell_at HT.out.2.1 0
        have cb1 : wn6.cell? ⟨A, 1, none⟩ = some (.int .i64 d2) := cell_at HT.out.2.1 1
        have cb2 : wn6.cell? ⟨A, 2, none⟩ = some (.int .i64 o2) := cell_at HT.out.2.1 2
        have cb3 : wn6.cell? ⟨A, 3, none⟩ = some (.int .i64 a2) := cell_at HT.out.2.1 3
        have cb4 : wn6.cell? ⟨A, 4, none⟩ = some (.int .i64 (i : Int)) := cell_at HT.out.2.1 4
        go_wp2_with fail
        refine HK.out _ _ _ _ _ _ _ _ _ _ _ _ _ _ _ _ _ _ _ _ _ _ _ _ _ _ _ _ _ _ _ _ _ sv wn6 ?_ (HT.out.2.2.mono (fun b hb => hb.1)) (fun b hb => .inl hb)
        rw [HF.out, HB2.out, if_neg (by simp), List.append_nil]; exact HS.out.1.keep HT.out.2.2 (fun b hb => (HS.out.1.lt hb).2)
      · cases hah : aheadB rooms l k i
        · have HWK := hid (show Ev.wr ⟨g1, d1, o1, a1⟩ = false from hwk)
          have HWI := hid (show Ev.wr ⟨g2, d2, o2, a2⟩ = true from hwi)
          have HB2 := hid (show races rooms l i k = true from by unfold races; rw [HE1.out, HE2.out, hne, hwk, hwi, hah]; simp)
          rw [hah] at HAH
          clear hg hah hwk hwi
          go_wp2_with fail
          refine (writes_walk ⟨g1, d1, o1, a1⟩ k _).mono ?_
          rintro e wn7 ⟨rfl, kn⟩
          rw [HWK.out]
          have HT7 := hid (rchk HT.out.1 HT.out.2.1 HT.out.2.2 kn)
          clear HT kn ca0 ca1 ca2 ca3 ca4 cb0 cb1 cb2 cb3 cb4
          have HT := HT7
          clear HT7
          have ca0 : wn7.cell? ⟨X, 0, none⟩ = some (.int .i64 g1) := cell_at HT.out.1 0
          have ca1 : wn7.cell? ⟨X, 1, none⟩ = some (.int .i64 d1) := cell_at HT.out.1 1
          have ca2 : wn7.cell? ⟨X, 2, none⟩ = some (.int .i64 o1) := cell_at HT.out.1 2
          have ca3 : wn7.cell? ⟨X, 3, none⟩ = some (.int .i64 a1) := cell_at HT.out.1 3
          have ca4 : wn7.cell? ⟨X, 4, none⟩ = some (.int .i64 (k : Int)) := cell_at HT.out.1 4
          have cb0 : wn7.cell? ⟨A, 0, none⟩ = some (.int .i64 g2) := cell_at HT.out.2.1 0
          have cb1 : wn7.cell? ⟨A, 1, none⟩ = some (.int .i64 d2) := cell_at HT.out.2.1 1
          have cb2 : wn7.cell? ⟨A, 2, none⟩ = some (.int .i64 o2) := cell_at HT.out.2.1 2
          have cb3 : wn7.cell? ⟨A, 3, none⟩ = some (.int .i64 a2) := cell_at HT.out.2.1 3
          have cb4 : wn7.cell? ⟨A, 4, none⟩ = some (.int .i64 (i : Int)) := cell_at HT.out.2.1 4
          go_wp2_with fail
          refine (writes_walk ⟨g2, d2, o2, a2⟩ i _).mono ?_
          rintro e wn8 ⟨rfl, kn⟩
          rw [HWI.out]
          have HT8 := hid (rchk HT.out.1 HT.out.2.1 HT.out.2.2 kn)
          clear HT kn ca0 ca1 ca2 ca3 ca4 cb0 cb1 cb2 cb3 cb4
          have HT := HT8
          clear HT8
          have ca0 : wn8.cell? ⟨X, 0, none⟩ = some (.int .i64 g1) := cell_at HT.out.1 0
          have ca1 : wn8.cell? ⟨X, 1, none⟩ = some (.int .i64 d1) := cell_at HT.out.1 1
          have ca2 : wn8.cell? ⟨X, 2, none⟩ = some (.int .i64 o1) := cell_at HT.out.1 2
          have ca3 : wn8.cell? ⟨X, 3, none⟩ = some (.int .i64 a1) := cell_at HT.out.1 3
          have ca4 : wn8.cell? ⟨X, 4, none⟩ = some (.int .i64 (k : Int)) := cell_at HT.out.1 4
          have cb0 : wn8.cell? ⟨A, 0, none⟩ = some (.int .i64 g2) := cell_at HT.out.2.1 0
          have cb1 : wn8.cell? ⟨A, 1, none⟩ = some (.int .i64 d2) := cell_at HT.out.2.1 1
          have cb2 : wn8.cell? ⟨A, 2, none⟩ = some (.int .i64 o2) := cell_at HT.out.2.1 2
          have cb3 : wn8.cell? ⟨A, 3, none⟩ = some (.int .i64 a2) := cell_at HT.out.2.1 3
          have cb4 : wn8.cell? ⟨A, 4, none⟩ = some (.int .i64 (i : Int)) := cell_at HT.out.2.1 4
          go_wp2_with fail
          refine (HAH.out _ (HT.out.2.2)).mono ?_
          rintro e wn9 ⟨rfl, kn⟩
          have HT9 := hid (rchkT HT.out.1 HT.out.2.1 HT.out.2.2 kn)
          clear HT kn ca0 ca1 ca2 ca3 ca4 cb0 cb1 cb2 cb3 cb4
          have HT := HT9
          clear HT9
          have ca0 : wn9.cell? ⟨X, 0, none⟩ = some (.int .i64 g1) := cell_at HT.out.1 0
          have ca1 : wn9.cell? ⟨X, 1, none⟩ = some (.int .i64 d1) := cell_at HT.out.1 1
          have ca2 : wn9.cell? ⟨X, 2, none⟩ = some (.int .i64 o1) := cell_at HT.out.1 2
          have ca3 : wn9.cell? ⟨X, 3, none⟩ = some (.int .i64 a1) := cell_at HT.out.1 3
          have ca4 : wn9.cell? ⟨X, 4, none⟩ = some (.int .i64 (k : Int)) := cell_at HT.out.1 4
          have cb0 : wn9.cell? ⟨A, 0, none⟩ = some (.int .i64 g2) := cell_at HT.out.2.1 0
          have cb1 : wn9.cell? ⟨A, 1, none⟩ = some (.int .i64 d2) := cell_at HT.out.2.1 1
          have cb2 : wn9.cell? ⟨A, 2, none⟩ = some (.int .i64 o2) := cell_at HT.out.2.1 2
          have cb3 : wn9.cell? ⟨A, 3, none⟩ = some (.int .i64 a2) := cell_at HT.out.2.1 3
          have cb4 : wn9.cell? ⟨A, 4, none⟩ = some (.int .i64 (i : Int)) := cell_at HT.out.2.1 4
          have HOW := hid (HS.out.1.keep HT.out.2.2 (fun b hb => (HS.out.1.lt hb).2))
          have HAP := hid (fun ty : TypeId => acc_append Z (wn9.alloc (.cells (acC ⟨g1, d1, o1, a1⟩ k).toArray 60)) ty sv _ ⟨g1, d1, o1, a1⟩ k ⟨wn9.heap.size, 0, none⟩ (HOW.out.keep (q := fun b => b < wn9.heap.size) ((Keep.refl _ _).alloc _ (fun _ h => h)) (fun b hb => (HOW.out.lt hb).2)) (fun q y hq => by rw [addr_add, Nat.zero_add, cell_at (heap_alloc_new wn9 (.cells (acC ⟨g1, d1, o1, a1⟩ k).toArray 60)), hq]) (by rw [acs_length]; exact HS.out.2.1) (by rw [World.size_alloc]; have := HS.out.2.2; have := HT.out.2.2.size; omega))
          go_wp2_with (at_builtin; refine wpList_app rfl (.tmp 84) (.tmp 86) 61 61 rfl _ (HAP.out _) ?_; rintro v7 w7 ⟨r7, k7, o7⟩; have H7 := hid (And.intro r7 (And.intro k7 o7)); clear r7 k7 o7)
          refine HK.out _ _ _ _ _ _ _ _ _ _ _ _ _ _ _ _ _ _ _ _ _ _ _ _ _ _ _ _ _ _ _ _ _ v7 w7 ?_ ?_ ?_
          · have := H7.out.1; rw [HF.out, HB2.out, if_pos rfl, acs_append, show acs l [k] = [acC ⟨g1, d1, o1, a1⟩ k] by simp [acs, HE1.out]]; exact this
          · have ka : Keep (· < wn9.heap.size) wn9 (wn9.alloc (.cells (acC ⟨g1, d1, o1, a1⟩ k).toArray 60)) := (Keep.refl _ _).alloc _ (fun _ h => h)
            have z1 := HT.out.2.2.size
            have z2 := ka.size
            exact (HT.out.2.2.mono (fun b hb => hb.1)).trans ((ka.mono (fun b hb => Nat.lt_of_lt_of_le hb.1 z1)).trans (H7.out.2.1.mono (fun b hb => ⟨Nat.lt_of_lt_of_le hb.1 (Nat.le_trans z1 z2), hb.2⟩)))
          · intro b hb
            rcases H7.out.2.2 b hb with h | h
            · exact .inl h
            · exact .inr (by rw [World.size_alloc] at h; have := HT.out.2.2.size; omega)
        · have HWK := hid (show Ev.wr ⟨g1, d1, o1, a1⟩ = false from hwk)
          have HWI := hid (show Ev.wr ⟨g2, d2, o2, a2⟩ = true from hwi)
          have HB2 := hid (show races rooms l i k = false from by unfold races; rw [HE1.out, HE2.out, hne, hwk, hwi, hah]; simp)
          rw [hah] at HAH
          clear hg hah hwk hwi
          go_wp2_with fail
          refine (writes_walk ⟨g1, d1, o1, a1⟩ k _).mono ?_
          rintro e wn10 ⟨rfl, kn⟩
          rw [HWK.out]
          have HT10 := hid (rchk HT.out.1 HT.out.2.1 HT.out.2.2 kn)
          clear HT kn ca0 ca1 ca2 ca3 ca4 cb0 cb1 cb2 cb3 cb4
          have HT := HT10
          clear HT10
          have ca0 : wn10.cell? ⟨X, 0, none⟩ = some (.int .i64 g1) := cell_at HT.out.1 0
          have ca1 : wn10.cell? ⟨X, 1, none⟩ = some (.int .i64 d1) := cell_at HT.out.1 1
          have ca2 : wn10.cell? ⟨X, 2, none⟩ = some (.int .i64 o1) := cell_at HT.out.1 2
          have ca3 : wn10.cell? ⟨X, 3, none⟩ = some (.int .i64 a1) := cell_at HT.out.1 3
          have ca4 : wn10.cell? ⟨X, 4, none⟩ = some (.int .i64 (k : Int)) := cell_at HT.out.1 4
          have cb0 : wn10.cell? ⟨A, 0, none⟩ = some (.int .i64 g2) := cell_at HT.out.2.1 0
          have cb1 : wn10.cell? ⟨A, 1, none⟩ = some (.int .i64 d2) := cell_at HT.out.2.1 1
          have cb2 : wn10.cell? ⟨A, 2, none⟩ = some (.int .i64 o2) := cell_at HT.out.2.1 2
          have cb3 : wn10.cell? ⟨A, 3, none⟩ = some (.int .i64 a2) := cell_at HT.out.2.1 3
          have cb4 : wn10.cell? ⟨A, 4, none⟩ = some (.int .i64 (i : Int)) := cell_at HT.out.2.1 4
          go_wp2_with fail
          refine (writes_walk ⟨g2, d2, o2, a2⟩ i _).mono ?_
          rintro e wn11 ⟨rfl, kn⟩
          rw [HWI.out]
          have HT11 := hid (rchk HT.out.1 HT.out.2.1 HT.out.2.2 kn)
          clear HT kn ca0 ca1 ca2 ca3 ca4 cb0 cb1 cb2 cb3 cb4
          have HT := HT11
          clear HT11
          have ca0 : wn11.cell? ⟨X, 0, none⟩ = some (.int .i64 g1) := cell_at HT.out.1 0
          have ca1 : wn11.cell? ⟨X, 1, none⟩ = some (.int .i64 d1) := cell_at HT.out.1 1
          have ca2 : wn11.cell? ⟨X, 2, none⟩ = some (.int .i64 o1) := cell_at HT.out.1 2
          have ca3 : wn11.cell? ⟨X, 3, none⟩ = some (.int .i64 a1) := cell_at HT.out.1 3
          have ca4 : wn11.cell? ⟨X, 4, none⟩ = some (.int .i64 (k : Int)) := cell_at HT.out.1 4
          have cb0 : wn11.cell? ⟨A, 0, none⟩ = some (.int .i64 g2) := cell_at HT.out.2.1 0
          have cb1 : wn11.cell? ⟨A, 1, none⟩ = some (.int .i64 d2) := cell_at HT.out.2.1 1
          have cb2 : wn11.cell? ⟨A, 2, none⟩ = some (.int .i64 o2) := cell_at HT.out.2.1 2
          have cb3 : wn11.cell? ⟨A, 3, none⟩ = some (.int .i64 a2) := cell_at HT.out.2.1 3
          have cb4 : wn11.cell? ⟨A, 4, none⟩ = some (.int .i64 (i : Int)) := cell_at HT.out.2.1 4
          go_wp2_with fail
          refine (HAH.out _ (HT.out.2.2)).mono ?_
          rintro e wn12 ⟨rfl, kn⟩
          have HT12 := hid (rchkT HT.out.1 HT.out.2.1 HT.out.2.2 kn)
          clear HT kn ca0 ca1 ca2 ca3 ca4 cb0 cb1 cb2 cb3 cb4
          have HT := HT12
          clear HT12
          have ca0 : wn12.cell? ⟨X, 0, none⟩ = some (.int .i64 g1) := cell_at HT.out.1 0
          have ca1 : wn12.cell? ⟨X, 1, none⟩ = some (.int .i64 d1) := cell_at HT.out.1 1
          have ca2 : wn12.cell? ⟨X, 2, none⟩ = some (.int .i64 o1) := cell_at HT.out.1 2
          have ca3 : wn12.cell? ⟨X, 3, none⟩ = some (.int .i64 a1) := cell_at HT.out.1 3
          have ca4 : wn12.cell? ⟨X, 4, none⟩ = some (.int .i64 (k : Int)) := cell_at HT.out.1 4
          have cb0 : wn12.cell? ⟨A, 0, none⟩ = some (.int .i64 g2) := cell_at HT.out.2.1 0
          have cb1 : wn12.cell? ⟨A, 1, none⟩ = some (.int .i64 d2) := cell_at HT.out.2.1 1
          have cb2 : wn12.cell? ⟨A, 2, none⟩ = some (.int .i64 o2) := cell_at HT.out.2.1 2
          have cb3 : wn12.cell? ⟨A, 3, none⟩ = some (.int .i64 a2) := cell_at HT.out.2.1 3
          have cb4 : wn12.cell? ⟨A, 4, none⟩ = some (.int .i64 (i : Int)) := cell_at HT.out.2.1 4
          go_wp2_with fail
          refine HK.out _ _ _ _ _ _ _ _ _ _ _ _ _ _ _ _ _ _ _ _ _ _ _ _ _ _ _ _ _ _ _ _ _ sv wn12 ?_ (HT.out.2.2.mono (fun b hb => hb.1)) (fun b hb => .inl hb)
          rw [HF.out, HB2.out, if_neg (by simp), List.append_nil]; exact HS.out.1.keep HT.out.2.2 (fun b hb => (HS.out.1.lt hb).2)
    · cases hah : aheadB rooms l k i
      · have HWK := hid (show Ev.wr ⟨g1, d1, o1, a1⟩ = true from hwk)
        have HB2 := hid (show races rooms l i k = true from by unfold races; rw [HE1.out, HE2.out, hne, hwk, hah]; simp)
        rw [hah] at HAH
        clear hg hah hwk
        go_wp2_with fail
        refine (writes_walk ⟨g1, d1, o1, a1⟩ k _).mono ?_
        rintro e wn1 ⟨rfl, kn⟩
        rw [HWK.out]
        have HT1 := hid (rchk HT.out.1 HT.out.2.1 HT.out.2.2 kn)
        clear HT kn ca0 ca1 ca2 ca3 ca4 cb0 cb1 cb2 cb3 cb4
        have HT := HT1
        clear HT1
        have ca0 : wn1.cell? ⟨X, 0, none⟩ = some (.int .i64 g1) := cell_at HT.out.1 0
        have ca1 : wn1.cell? ⟨X, 1, none⟩ = some (.int .i64 d1) := cell_at HT.out.1 1
        have ca2 : wn1.cell? ⟨X, 2, none⟩ = some (.int .i64 o1) := cell_at HT.out.1 2
        have ca3 : wn1.cell? ⟨X, 3, none⟩ = some (.int .i64 a1) := cell_at HT.out.1 3
        have ca4 : wn1.cell? ⟨X, 4, none⟩ = some (.int .i64 (k : Int)) := cell_at HT.out.1 4
        have cb0 : wn1.cell? ⟨A, 0, none⟩ = some (.int .i64 g2) := cell_at HT.out.2.1 0
        have cb1 : wn1.cell? ⟨A, 1, none⟩ = some (.int .i64 d2) := cell_at HT.out.2.1 1
        have cb2 : wn1.cell? ⟨A, 2, none⟩ = some (.int .i64 o2) := cell_at HT.out.2.1 2
        have cb3 : wn1.cell? ⟨A, 3, none⟩ = some (.int .i64 a2) := cell_at HT.out.2.1 3
        have cb4 : wn1.cell? ⟨A, 4, none⟩ = some (.int .i64 (i : Int)) := cell_at HT.out.2.1 4
        go_wp2_with fail
        refine (HAH.out _ (HT.out.2.2)).mono ?_
        rintro e wn2 ⟨rfl, kn⟩
        have HT2 := hid (rchkT HT.out.1 HT.out.2.1 HT.out.2.2 kn)
        clear HT kn ca0 ca1 ca2 ca3 ca4 cb0 cb1 cb2 cb3 cb4
        have HT := HT2
        clear HT2
        have ca0 : wn2.cell? ⟨X, 0, none⟩ = some (.int .i64 g1) := cell_at HT.out.1 0
        have ca1 : wn2.cell? ⟨X, 1, none⟩ = some (.int .i64 d1) := cell_at HT.out.1 1
        have ca2 : wn2.cell? ⟨X, 2, none⟩ = some (.int .i64 o1) := cell_at HT.out.1 2
        have ca3 : wn2.cell? ⟨X, 3, none⟩ = some (.int .i64 a1) := cell_at HT.out.1 3
        have ca4 : wn2.cell? ⟨X, 4, none⟩ = some (.int .i64 (k : Int)) := cell_at HT.out.1 4
        have cb0 : wn2.cell? ⟨A, 0, none⟩ = some (.int .i64 g2) := cell_at HT.out.2.1 0
        have cb1 : wn2.cell? ⟨A, 1, none⟩ = some (.int .i64 d2) := cell_at HT.out.2.1 1
        have cb2 : wn2.cell? ⟨A, 2, none⟩ = some (.int .i64 o2) := cell_at HT.out.2.1 2
        have cb3 : wn2.cell? ⟨A, 3, none⟩ = some (.int .i64 a2) := cell_at HT.out.2.1 3
        have cb4 : wn2.cell? ⟨A, 4, none⟩ = some (.int .i64 (i : Int)) := cell_at HT.out.2.1 4
        have HOW := hid (HS.out.1.keep HT.out.2.2 (fun b hb => (HS.out.1.lt hb).2))
        have HAP := hid (fun ty : TypeId => acc_append Z (wn2.alloc (.cells (acC ⟨g1, d1, o1, a1⟩ k).toArray 60)) ty sv _ ⟨g1, d1, o1, a1⟩ k ⟨wn2.heap.size, 0, none⟩ (HOW.out.keep (q := fun b => b < wn2.heap.size) ((Keep.refl _ _).alloc _ (fun _ h => h)) (fun b hb => (HOW.out.lt hb).2)) (fun q y hq => by rw [addr_add, Nat.zero_add, cell_at (heap_alloc_new wn2 (.cells (acC ⟨g1, d1, o1, a1⟩ k).toArray 60)), hq]) (by rw [acs_length]; exact HS.out.2.1) (by rw [World.size_alloc]; have := HS.out.2.2; have := HT.out.2.2.size; omega))
        go_wp2_with (at_builtin; refine wpList_app rfl (.tmp 84) (.tmp 86) 61 61 rfl _ (HAP.out _) ?_; rintro v7 w7 ⟨r7, k7, o7⟩; have H7 := hid (And.intro r7 (And.intro k7 o7)); clear r7 k7 o7)
        refine HK.out _ _ _ _ _ _ _ _ _ _ _ _ _ _ _ _ _ _ _ _ _ _ _ _ _ _ _ _ _ _ _ _ _ v7 w7 ?_ ?_ ?_
        · have := H7.out.1; rw [HF.out, HB2.out, if_pos rfl, acs_append, show acs l [k] = [acC ⟨g1, d1, o1, a1⟩ k] by simp [acs, HE1.out]]; exact this
        · have ka : Keep (· < wn2.heap.size) wn2 (wn2.alloc (.cells (acC ⟨g1, d1, o1, a1⟩ k).toArray 60)) := (Keep.refl _ _).alloc _ (fun _ h => h)
          have z1 := HT.out.2.2.size
          have z2 := ka.size
          exact (HT.out.2.2.mono (fun b hb => hb.1)).trans ((ka.mono (fun b hb => Nat.lt_of_lt_of_le hb.1 z1)).trans (H7.out.2.1.mono (fun b hb => ⟨Nat.lt_of_lt_of_le hb.1 (Nat.le_trans z1 z2), hb.2⟩)))
        · intro b hb
          rcases H7.out.2.2 b hb with h | h
          · exact .inl h
          · exact .inr (by rw [World.size_alloc] at h; have := HT.out.2.2.size; omega)
      · have HWK := hid (show Ev.wr ⟨g1, d1, o1, a1⟩ = true from hwk)
        have HB2 := hid (show races rooms l i k = false from by unfold races; rw [HE1.out, HE2.out, hne, hwk, hah]; simp)
        rw [hah] at HAH
        clear hg hah hwk
        go_wp2_with fail
        refine (writes_walk ⟨g1, d1, o1, a1⟩ k _).mono ?_
        rintro e wn3 ⟨rfl, kn⟩
        rw [HWK.out]
        have HT3 := hid (rchk HT.out.1 HT.out.2.1 HT.out.2.2 kn)
        clear HT kn ca0 ca1 ca2 ca3 ca4 cb0 cb1 cb2 cb3 cb4
        have HT := HT3
        clear HT3
        have ca0 : wn3.cell? ⟨X, 0, none⟩ = some (.int .i64 g1) := cell_at HT.out.1 0
        have ca1 : wn3.cell? ⟨X, 1, none⟩ = some (.int .i64 d1) := cell_at HT.out.1 1
        have ca2 : wn3.cell? ⟨X, 2, none⟩ = some (.int .i64 o1) := cell_at HT.out.1 2
        have ca3 : wn3.cell? ⟨X, 3, none⟩ = some (.int .i64 a1) := cell_at HT.out.1 3
        have ca4 : wn3.cell? ⟨X, 4, none⟩ = some (.int .i64 (k : Int)) := cell_at HT.out.1 4
        have cb0 : wn3.cell? ⟨A, 0, none⟩ = some (.int .i64 g2) := cell_at HT.out.2.1 0
        have cb1 : wn3.cell? ⟨A, 1, none⟩ = some (.int .i64 d2) := cell_at HT.out.2.1 1
        have cb2 : wn3.cell? ⟨A, 2, none⟩ = some (.int .i64 o2) := cell_at HT.out.2.1 2
        have cb3 : wn3.cell? ⟨A, 3, none⟩ = some (.int .i64 a2) := cell_at HT.out.2.1 3
        have cb4 : wn3.cell? ⟨A, 4, none⟩ = some (.int .i64 (i : Int)) := cell_at HT.out.2.1 4
        go_wp2_with fail
        refine (HAH.out _ (HT.out.2.2)).mono ?_
        rintro e wn4 ⟨rfl, kn⟩
        have HT4 := hid (rchkT HT.out.1 HT.out.2.1 HT.out.2.2 kn)
        clear HT kn ca0 ca1 ca2 ca3 ca4 cb0 cb1 cb2 cb3 cb4
        have HT := HT4
        clear HT4
        have ca0 : wn4.cell? ⟨X, 0, none⟩ = some (.int .i64 g1) := cell_at HT.out.1 0
        have ca1 : wn4.cell? ⟨X, 1, none⟩ = some (.int .i64 d1) := cell_at HT.out.1 1
        have ca2 : wn4.cell? ⟨X, 2, none⟩ = some (.int .i64 o1) := cell_at HT.out.1 2
        have ca3 : wn4.cell? ⟨X, 3, none⟩ = some (.int .i64 a1) := cell_at HT.out.1 3
        have ca4 : wn4.cell? ⟨X, 4, none⟩ = some (.int .i64 (k : Int)) := cell_at HT.out.1 4
        have cb0 : wn4.cell? ⟨A, 0, none⟩ = some (.int .i64 g2) := cell_at HT.out.2.1 0
        have cb1 : wn4.cell? ⟨A, 1, none⟩ = some (.int .i64 d2) := cell_at HT.out.2.1 1
        have cb2 : wn4.cell? ⟨A, 2, none⟩ = some (.int .i64 o2) := cell_at HT.out.2.1 2
        have cb3 : wn4.cell? ⟨A, 3, none⟩ = some (.int .i64 a2) := cell_at HT.out.2.1 3
        have cb4 : wn4.cell? ⟨A, 4, none⟩ = some (.int .i64 (i : Int)) := cell_at HT.out.2.1 4
        go_wp2_with fail
        refine HK.out _ _ _ _ _ _ _ _ _ _ _ _ _ _ _ _ _ _ _ _ _ _ _ _ _ _ _ _ _ _ _ _ _ sv wn4 ?_ (HT.out.2.2.mono (fun b hb => hb.1)) (fun b hb => .inl hb)
        rw [HF.out, HB2.out, if_neg (by simp), List.append_nil]; exact HS.out.1.keep HT.out.2.2 (fun b hb => (HS.out.1.lt hb).2)
end Go.Proofs.YtalihehmbiohlaaDoor
