/-
  Step by step: a round of the outer loop of Races, behind the look at the event's kind.
-/
import Derived.Test.YtalihehmbiohlaaDoorOrdM
namespace Go.Proofs.YtalihehmbiohlaaDoor
open Go.RowKit Go.Maps Go.Proofs.Mem Go.Proofs.Txt Go.Proofs.Ord Go.Proofs.Mp

def restOf : Code → Code
  | .seq _ (.seq _ (.seq (.block _ (.seq _ (.seq _ (.seq _ rest)))) _)) => rest
  | _ => .skip
noncomputable def racesRest : Code := restOf (racesBody 0)
theorem acc_zero (w : World) : (zeroValue 61).run Tryd.prog w = .ok (.slice none 0 0) w := by kernel_rfl
theorem race_zero (w : World) : (zeroValue 56).run Tryd.prog w = .ok (rcV ⟨0, 0, 0, false, false⟩) w := by kernel_rfl
theorem exec_look {P : Program} {o : Oper} {a : Act} {w : World} (T : TypeId) (x y : Operand) {m k v : Value} (ho : o.op = .lookup T x y false) (hx : a.eval x = m) (hy : a.eval y = k) (h : (Instr.lookup T m k false).run P w = .ok v w) : (execOp a.eval o).run P w = .ok (.value v) w := by
  unfold execOp
  simp [ho, hx, hy, h, Result.andThen]
theorem own_notMap {B : Nat} {w : World} {E : TypeId} {k : Nat} {v : Value} {ls : List (List Value)} (h : OwnS B w E k v ls) {M : Nat} {m : Tab} (hm : IMap Tryd.prog 3 w M m) : v.ownBlock ≠ some M := fun e => by
  rcases h.2 with ⟨e', _⟩ | ⟨g, c, cur, e', _, hg, _⟩
  · rw [e'] at e; cases e
  · rw [e'] at e
    obtain rfl : g = M := by simpa [Value.ownBlock] using e
    have := hm.notCells hg
    cases this
theorem SeenAt.beside {B : Nat} {w w' : World} {M M2 : Nat} {l : List Ev} {i : Nat} {t m : Tab} (h : SeenAt B w M l i t) (hm : IMap Tryd.prog 3 w M2 m) (hne : M ≠ M2) (g : w.grownBy w' (some M2)) : SeenAt B w' M l i t := by
  have kg : Keep (fun b => b < w.heap.size ∧ b ≠ M2) w w' := (Keep.refl (fun b => b < w.heap.size ∧ b ≠ M2) w).grown g (fun b hb => ⟨hb.1, fun e => hb.2 (by injection e)⟩)
  exact ⟨h.map.keep kg ⟨h.map.lt, hne⟩, h.len, fun p => (h.row p).keep kg (fun b hb => ⟨((h.row p).lt hb).2, fun e => own_notMap (h.row p) hm (e ▸ hb)⟩), h.ne⟩
theorem cells_notMap {w : World} {M E : Nat} {m : Tab} {cs : Array Value} {T : TypeId} {fr : Nat × Nat} (hm : IMap Tryd.prog 3 w M m) (h : w.heap[E]? = some (.cells cs T fr)) : E ≠ M := fun e => by
  subst e
  have := hm.notCells h
  cases this

set_option maxRecDepth 1000000 in
set_option maxHeartbeats 8000000 in
theorem races_rest {s1 s2 s3 s4 s5 s7 s13 s14 s15 s16 s17 s18 s19 s20 s21 s22 s23 s24 s25 s26 s27 s28 s29 s30 s31 s32 s33 s34 s35 s36 s37 s38 s39 s40 s41 s42 s43 s44 s45 s46 s47 s48 s49 s50 s51 s52 s53 s54 s55 s56 s57 s58 s59 s60 s61 s62 s63 s64 s65 s66 s67 s68 s69 s70 s71 s72 s73 s74 s75 s76 s77 s78 s79 s80 s81 s82 s83 s84 s85 s86 s87 s88 s89 s90 s91 s92 s93 s94 s95 s96 s97 s98 s99 s100 s101 s102 s103 s104 s105 s106 s107 s108 s109 s110 s111 s112 s113 s114 s115 s116 s117 s118 s119 s120 s121 s122 s123 s124 s125 s126 s127 s128 s129 s130 s131 s132 s133 s134 s135 s136 s137 s138 s139 s140 s141 s142 s143 s144 s145 s146 : Value} {rooms : List Int} {l : List Ev} {tb t0 tc cc E A i M1 M2 B : Nat} {ca : Option Addr} {t : Tab} {w0 : World} {p q : Nat → Prop} {Q1 : Exit → Act → World → Prop}
    (hv : EvsAt w0 p (.slice (some ⟨tb, t0, none⟩) l.length tc) l) (hc : ClksAt w0 q (.slice ca l.length cc) l.length (clockAt rooms l)) (hok : ∀ e ∈ l, e.ok = true) (hwf : (Lit.int .i64 (evAt l i).obj).wf = true) (hil : i < l.length) (hlen : l.length ≤ 200) (hacc : (evAt l i).acc = true)
    (hE : w0.heap[E]? = some (.cells (evC (evAt l i)).toArray 25 (0, 0))) (hA : w0.heap[A]? = some (.cells (acC (evAt l i) i).toArray 60 (0, 0))) (hold : ∀ p b, ((mget t p).getD sv0).ownBlock = some b → b < E ∧ b < A)
    (hs : SeenAt B w0 M1 l i t) (hf : IMap Tryd.prog 3 w0 M2 (tabR (foundL rooms l i))) (hM : M1 ≠ M2) (hB1 : B ≤ M1) (hB2 : B ≤ M2) (hBw : B ≤ w0.heap.size)
    (hQ : ∀ (v13 v15 v16 v17 v18 v51 v52 v53 v54 v55 v56 v57 v58 v59 v60 v61 v62 v63 v64 v65 v66 v67 v68 v69 v70 v71 v72 v73 v74 v75 v76 v77 v78 v79 v80 v81 v82 v83 v84 v85 v86 v87 v88 v89 v90 v91 v92 v93 v94 v95 v96 v97 v98 v99 v100 v101 v102 v103 v104 v105 v106 v107 v108 v109 v110 v111 v112 v113 v114 v115 v116 v117 v118 v119 v120 v121 v122 v123 v124 v125 v126 v127 v128 v129 : Value) (wx : World) (t' : Tab), SeenAt B wx M1 l (i + 1) t' → IMap Tryd.prog 3 wx M2 (tabR (foundL rooms l (i + 1))) → Keep (· < B) w0 wx → Q1 .normal ⟨#[.slice (some ⟨tb, t0, none⟩) l.length tc, s1, s2, s3, s4, s5, .slice ca l.length cc, s7, .map (some M1), .map (some M2), .int .i64 (i : Int), .pointer (some ⟨E, 0, none⟩), .pointer (some ⟨A, 0, none⟩), v13, s14, v15, v16, v17, v18, s19, s20, s21, s22, s23, s24, s25, s26, s27, s28, s29, s30, s31, s32, s33, s34, s35, s36, s37, s38, s39, s40, s41, s42, s43, s44, s45, s46, s47, s48, s49, s50, v51, v52, v53, v54, v55, v56, v57, v58, v59, v60, v61, v62, v63, v64, v65, v66, v67, v68, v69, v70, v71, v72, v73, v74, v75, v76, v77, v78, v79, v80, v81, v82, v83, v84, v85, v86, v87, v88, v89, v90, v91, v92, v93, v94, v95, v96, v97, v98, v99, v100, v101, v102, v103, v104, v105, v106, v107, v108, v109, v110, v111, v112, v113, v114, v115, v116, v117, v118, v119, v120, v121, v122, v123, v124, v125, v126, v127, v128, v129, s130, s131, s132, s133, s134, s135, s136, s137, s138, s139, s140, s141, s142, s143, s144, s145, s146], []⟩ wx) :
    Code.wp Tryd.prog racesRest Q1 ⟨#[.slice (some ⟨tb, t0, none⟩) l.length tc, s1, s2, s3, s4, s5, .slice ca l.length cc, s7, .map (some M1), .map (some M2), .int .i64 (i : Int), .pointer (some ⟨E, 0, none⟩), .pointer (some ⟨A, 0, none⟩), s13, s14, s15, s16, s17, s18, s19, s20, s21, s22, s23, s24, s25, s26, s27, s28, s29, s30, s31, s32, s33, s34, s35, s36, s37, s38, s39, s40, s41, s42, s43, s44, s45, s46, s47, s48, s49, s50, s51, s52, s53, s54, s55, s56, s57, s58, s59, s60, s61, s62, s63, s64, s65, s66, s67, s68, s69, s70, s71, s72, s73, s74, s75, s76, s77, s78, s79, s80, s81, s82, s83, s84, s85, s86, s87, s88, s89, s90, s91, s92, s93, s94, s95, s96, s97, s98, s99, s100, s101, s102, s103, s104, s105, s106, s107, s108, s109, s110, s111, s112, s113, s114, s115, s116, s117, s118, s119, s120, s121, s122, s123, s124, s125, s126, s127, s128, s129, s130, s131, s132, s133, s134, s135, s136, s137, s138, s139, s140, s141, s142, s143, s144, s145, s146], []⟩ w0 := by
  have HQ := hid hQ
  have HKY := hid (key_ok hwf)
  obtain ⟨sa, sc, hsf⟩ := (hs.row (evAt l i).obj).form
  rw [acs_length] at hsf
  have HAT := hid ((hs.row (evAt l i).obj).at_ (acs_each _ _))
  obtain ⟨ks, hks⟩ : ∃ ks, accs l i (evAt l i).obj = ks := ⟨_, rfl⟩
  have HKS := hid (show ks.filter (races rooms l i) = cand rooms l i by rw [← hks]; rfl)
  have HKM := hid (show ∀ k ∈ ks, k < i from fun k hk => accs_lt l i _ k (by rw [hks]; exact hk))
  rw [hks] at hsf HAT
  have hn5 : ks.length ≤ 1000 := by have := accs_length l i (evAt l i).obj; rw [hks] at this; omega
  obtain ⟨n, hn⟩ : ∃ n, ks.length = n := ⟨_, rfl⟩
  rw [hn] at hsf hn5
  rw [hsf] at HAT
  have HN := hid hn
  have HFN := hid (show foundL rooms l (i + 1) = if (evAt l i).acc && !(cand rooms l i).isEmpty && (foundL rooms l i).all (fun r => r.pl != (evAt l i).obj) then insR (raceOf l (told l (cand rooms l i)) i) (foundL rooms l i) else foundL rooms l i from rfl)
  have HAC := hid hacc
  obtain ⟨ei, hei⟩ : ∃ e, evAt l i = e := ⟨_, rfl⟩
  have HE2 := hid hei
  have HV := hid hv
  have HC := hid hc
  have HOK := hid hok
  have HS := hid hs
  have HFO := hid hf
  have HMM := hid (And.intro hM (And.intro hB1 hB2))
  have hBW := hid hBw
  have HB0 := hid hBw
  have HOB := hid (show ∀ b, (Value.slice sa n sc).ownBlock = some b → b < E ∧ b < A from fun b hb => hold _ b (by rw [show (mget t (evAt l i).obj).getD sv0 = _ from hsf]; exact hb))
  have HOL := hid hold
  have HHA := hid hA
  have HIL := hid (And.intro hil hlen)
  have HSF := hid (show (mget t (evAt l i).obj).getD (.slice none 0 0) = .slice sa n sc from hsf)
  rw [hei] at hE hA HKY HSF HFN HAC
  obtain ⟨g2, d2, ob, a2⟩ := ei
  have ce : w0.cell? ⟨E, 2, none⟩ = some (.int .i64 ob) := cell_at hE 2
  have HE := hid (And.intro hE hA)
  clear hQ hwf hv hc hok hs hf hM hB1 hB2 hBw hold hacc hei hks hn hsf hE hA hil
  conv => arg 2; whnf
  go_wp2_with (at_lookup; refine wpList_ilook rfl (.tmp 51) (.tmp 53) 57 61 rfl int_keys Tryd.underlying57 M1 t rfl HS.out.map ob rfl HKY.out _ (acc_zero _) ?_; rw [HSF.out])
  go_loopg [13, 56] n (fun k s13 s56 wy => ∃ j : Nat, j + k = n ∧ s56 = .int .i64 (j : Int) ∧ OwnS w0.heap.size wy 60 5 s13 (acs l ((ks.take j).filter (races rooms l i))) ∧ Keep (· < w0.heap.size) w0 wy)
  case atStart => exact ⟨0, by omega, rfl, OwnS.nil _ _ _ _, Keep.refl _ _⟩
  case round =>
    obtain ⟨j, hjn, rfl, hrow, hk⟩ := hrel
    by_cases hlt : j < n
    · obtain ⟨k, hkk⟩ : ∃ k, ks[j]? = some k := ⟨_, List.getElem?_eq_getElem (by have := HN.out; omega)⟩
      have hkr := hk.size
      obtain ⟨sb, so, hsa, _, _⟩ := HAT.out.get j (x := acC (evAt l k) k) (by simp [acs, hkk])
      have hki := HKM.out k (List.mem_of_getElem? hkk)
      have HR := hid (And.intro hrow (And.intro hk (And.intro hjn hlt)))
      subst hsa
      clear hrow hk hjn hlt
      refine races_round (HV.out.lt.keep HR.out.2.1 (fun b hb => hb.1)) (HC.out.lt.keep HR.out.2.1 (fun b hb => hb.1)) HOK.out ((HR.out.2.1.block A (Array.getElem?_eq_some_iff.1 HHA.out).1).trans HHA.out) ((HAT.out.lt (fun x hx h0 => by have := acs_each _ _ x hx; rw [h0] at this; cases this)).keep HR.out.2.1 (fun b hb => hb.1)) HN.out HR.out.2.2.2 hkk (by have := HIL.out; omega) HIL.out.1 hn5 HR.out.1 hkr ?_
      iterate 33 (intro _)
      intro sv2 wx r1 r2 r3
      have H2 := hid (And.intro r1 (r2.mono (q := fun b => b < w0.heap.size) (fun b hb => ⟨Nat.lt_of_lt_of_le hb hkr, fun e => by have := (HR.out.1.lt e).1; omega⟩)))
      clear r1 r2 r3
      go_step
      go_roundg (gk - 1)
      case measure => have := HR.out.2.2; omega
      case rel => exact ⟨j + 1, by have := HR.out.2.2; omega, by go_num, H2.out.1, HR.out.2.1.trans H2.out.2⟩
    · obtain rfl : n = j := by omega
      rw [List.take_of_length_le (by have := HN.out; omega), HKS.out] at hrow
      obtain ⟨wy, rfl⟩ : ∃ wy : World, wy = wr := ⟨_, rfl⟩
      have HY := hid hk
      have hky := hk.size
      obtain ⟨la, lc, rfl⟩ := hrow.form
      rw [acs_length] at hrow ⊢
      have SW := hid (HS.out.next hk)
      have HLR := hid hrow
      have hZ0 := HIL.out.2
      have hcl := cand_length rooms l i
      have hEl : E < wy.heap.size := Nat.lt_of_lt_of_le (Array.getElem?_eq_some_iff.1 HE.out.1).1 hky
      have hAl : A < wy.heap.size := Nat.lt_of_lt_of_le (Array.getElem?_eq_some_iff.1 HE.out.2).1 hky
      have HEY := hid (And.intro ((hk.block E (Array.getElem?_eq_some_iff.1 HE.out.1).1).trans HE.out.1) ((hk.block A (Array.getElem?_eq_some_iff.1 HE.out.2).1).trans HE.out.2))
      have HFY := hid (HFO.out.keep hk HFO.out.lt)
      have HNM := hid (show ∀ b, (Value.slice sa n sc).ownBlock = some b → b ≠ M1 from fun b hb e => by have h5 := SW.out.row ob; rw [show (mget t ob).getD sv0 = _ from HSF.out] at h5; exact own_notMap h5 SW.out.map (e ▸ hb))
      have ra0 := range_whole HEY.out.2
      have htl : t.length < maxLen := by have := SW.out.len; have := HIL.out; unfold maxLen; omega
      replace hBW := hid (Nat.le_trans hBW.out hky)
      clear ce
      have ce : wy.cell? ⟨E, 2, none⟩ = some (.int .i64 ob) := cell_at HEY.out.1 2
      obtain ⟨L, hL⟩ : ∃ L, (cand rooms l i).length = L := ⟨_, rfl⟩
      have HL := hid hL
      rw [hL] at HLR hcl ⊢
      clear hrow hk hlt hjn hL
      go_wp2_with fail
      refine wp_region_plan [true, true, true, true, true, true, true, true, false, false, false] (.free 0 (.free 1 (.free 2 (.free 3 (.free 4 (.free 5 (.free 6 (.free 7 (.one 8 (.one 9 (.last 10))))))))))) (fun wx => wx.cell? ⟨E, 2, none⟩ = some (.int .i64 ob) ∧ wx.rangeAt A 0 (acC ⟨g2, d2, ob, a2⟩ i) ∧ IMap Tryd.prog 3 wx M1 t) (by kernel_rfl) (by kernel_rfl) (⟨ce, ra0, SW.out.map⟩) ?_
      iterate 2 (refine plan_free rfl rfl (fun K hK => ?_); go_simp; refine hK _ ?_; clear hK K)
      refine plan_held (.int .i64 ob) rfl rfl (fun w0 h0 => by obtain ⟨h1, h2, h3⟩ := h0; go_simp) (fun K hK => ?_); refine hK _ ?_; clear hK K
      iterate 2 (refine plan_free rfl rfl (fun K hK => ?_); go_simp; refine hK _ ?_; clear hK K)
      refine plan_held (.int .i64 ob) rfl rfl (fun w0 h0 => by obtain ⟨h1, h2, h3⟩ := h0; go_simp) (fun K hK => ?_); refine hK _ ?_; clear hK K
      refine plan_held (.slice sa n sc) rfl rfl (fun w0 h0 => by have h5 := IMap.look int_keys Tryd.underlying57 HKY.out h0.2.2 (acc_zero w0); rw [show (mget t ob).getD (.slice none 0 0) = .slice sa n sc from HSF.out] at h5; exact exec_look _ _ _ rfl rfl rfl h5) (fun K hK => ?_); refine hK _ ?_; clear hK K
      refine plan_load rfl rfl 60 (.tmp 12) rfl A 0 rfl (acC ⟨g2, d2, ob, a2⟩ i) _ (fun wx h => h.2.1) Tryd.underlying60 rfl (ac_size _ _) (fun K hK => ?_); refine hK _ ?_; clear hK K
      refine plan_one rfl rfl (fun K hK => ?_); go_simp
      have kb : Keep (· < wy.heap.size) wy (wy.drew.alloc (.cells (acC ⟨g2, d2, ob, a2⟩ i).toArray 60)) := (Keep.refl _ _).drew.alloc _ (fun _ h => h)
      refine hK _ _ ⟨⟨(kb.cell (x := ⟨E, 2, none⟩) hEl).trans ce, fun j y hy => (kb.cell (x := ⟨A, 0 + j, none⟩) hAl).trans (ra0 j y hy), SW.out.map.keep kb SW.out.map.lt⟩, ?_⟩
      clear hK K
      refine plan_world (fun wx => Keep (· < wy.heap.size) wy wx ∧ wx.heap[wy.heap.size]? = some (.cells (acC ⟨g2, d2, ob, a2⟩ i).toArray 60 (0, 0))) ⟨kb, heap_alloc_new wy.drew _⟩ ?_
      rintro wb ⟨kb2, hb2⟩
      have HKB := hid kb2
      have HAP := hid (fun ty : TypeId => acc_append B wb ty _ _ ⟨g2, d2, ob, a2⟩ i ⟨wy.heap.size, 0, none⟩ ((SW.out.row ob).keep kb2 (fun b hb => ((SW.out.row ob).lt hb).2)) (fun q y hq => by rw [addr_add, Nat.zero_add, cell_at hb2, hq]) (by rw [acs_length]; have := accs_length l i ob; have := HIL.out; omega) (Nat.le_trans hBW.out kb2.size))
      rw [show (mget t ob).getD sv0 = .slice sa n sc from HSF.out] at HAP
      clear kb kb2 hb2
      refine plan_app rfl rfl (.tmp 95) (.tmp 97) 61 61 rfl _ (HAP.out _) ?_
      rintro v7 w7 ⟨r7, k7, o7⟩
      have HM7 := hid ((SW.out.map.keep HKB.out SW.out.map.lt).keep k7 ⟨Nat.lt_of_lt_of_le SW.out.map.lt HKB.out.size, fun e => HNM.out _ e rfl⟩)
      have hE7 : E < wb.heap.size ∧ (Value.slice sa n sc).ownBlock ≠ some E := ⟨Nat.lt_of_lt_of_le hEl HKB.out.size, fun e => by have := HOB.out E e; omega⟩
      have hA7 : A < wb.heap.size ∧ (Value.slice sa n sc).ownBlock ≠ some A := ⟨Nat.lt_of_lt_of_le hAl HKB.out.size, fun e => by have := HOB.out A e; omega⟩
      have H7 := hid (And.intro r7 (And.intro k7 o7))
      refine ⟨⟨(k7.cell (x := ⟨E, 2, none⟩) hE7).trans ((HKB.out.cell (x := ⟨E, 2, none⟩) hEl).trans ce), fun j y hy => (k7.cell (x := ⟨A, 0 + j, none⟩) hA7).trans ((HKB.out.cell (x := ⟨A, 0 + j, none⟩) hAl).trans (ra0 j y hy)), HM7.out⟩, ?_⟩
      clear r7 k7 o7 HAP
      refine plan_last rfl rfl (fun K hK => wp_istore (.tmp 89) (.tmp 91) (.tmp 98) 57 61 rfl int_keys Tryd.underlying57 M1 t rfl HM7.out htl ob rfl HKY.out v7 rfl ?_)
      intro w8 hm8 hg8
      have H8 := hid (And.intro hm8 hg8)
      refine hK _ _ ?_
      clear hK K hm8 hg8
      have hput := hid (SW.out.put (w1 := w7) (w2 := w8) (v' := v7) (by rw [HE2.out]; exact HAC.out) hBW.out (by rw [HE2.out]; exact H7.out.1) (by rw [HE2.out, show (mget t ob).getD sv0 = _ from HSF.out]; exact (HKB.out.mono fun b hb => hb.1).trans (H7.out.2.1.mono fun b hb => ⟨Nat.lt_of_lt_of_le hb.1 HKB.out.size, hb.2⟩)) (by rw [HE2.out, show (mget t ob).getD sv0 = _ from HSF.out]; exact fun b hb => (H7.out.2.2 b hb).imp id (fun h => Nat.le_trans HKB.out.size h)) (by rw [HE2.out]; exact H8.out.1) H8.out.2)
      have hk8 := hput.out.2.size
      have HN8 := hid (show ∀ b, b < wy.heap.size → b ≠ M1 → (∀ p, ((mget t p).getD sv0).ownBlock ≠ some b) → b < wy.heap.size ∧ b ≠ M1 ∧ ∀ p, ((mget t p).getD sv0).ownBlock ≠ some b from fun b h1 h2 h3 => ⟨h1, h2, h3⟩)
      have HE8 := hid (show E < wy.heap.size ∧ E ≠ M1 ∧ ∀ p, ((mget t p).getD sv0).ownBlock ≠ some E from ⟨hEl, cells_notMap SW.out.map HEY.out.1, fun p e => by have := (HOL.out p E e).1; omega⟩)
      have HA8 := hid (show A < wy.heap.size ∧ A ≠ M1 ∧ ∀ p, ((mget t p).getD sv0).ownBlock ≠ some A from ⟨hAl, cells_notMap SW.out.map HEY.out.2, fun p e => by have := (HOL.out p A e).2; omega⟩)
      have HF8 := hid (HFY.out.keep hput.out.2 ⟨HFY.out.lt, fun e => HMM.out.1 e.symm, fun p e => own_notMap (SW.out.row p) HFY.out e⟩)
      have HL8 := hid (HLR.out.keep hput.out.2 (fun b hb => ⟨(HLR.out.lt hb).2, fun e => by have := (HLR.out.lt hb).1; have := HS.out.map.lt; omega, fun p e => by have := (HLR.out.lt hb).1; have := ((HS.out.row p).lt e).2; omega⟩))
      have HK8 := hid ((HY.out.mono (q := fun b => b < B) (fun b hb => Nat.lt_of_lt_of_le hb (show B ≤ w0.heap.size from HB0.out))).trans (hput.out.2.mono fun b hb => ⟨Nat.lt_of_lt_of_le hb hBW.out, fun e => by have := HMM.out.2.1; omega, fun p e => by have := ((SW.out.row p).lt e).1; omega⟩))
      have SP := hid hput.out.1
      rw [HE2.out] at SP
      obtain ⟨t8, ht8⟩ : ∃ t8, mput t ob v7 = t8 := ⟨_, rfl⟩
      have SP := hid (show SeenAt B w8 M1 l (i + 1) t8 from ht8 ▸ SP.out)
      have HEA := hid (And.intro ((hput.out.2.block E HE8.out).trans HEY.out.1) ((hput.out.2.block A HA8.out).trans HEY.out.2))
      obtain ⟨rs, hrs⟩ : ∃ rs, foundL rooms l i = rs := ⟨_, rfl⟩
      have hrl : rs.length ≤ i := by rw [← hrs]; exact found_length rooms l i
      rw [hrs] at HF8 HFN
      obtain ⟨r0, hr0⟩ : ∃ r0, (mget (tabR rs) ob).getD (rcV ⟨0, 0, 0, false, false⟩) = rcV r0 := by rw [mget_tabR]; cases rs.find? (fun r => r.pl == ob) with | none => exact ⟨_, rfl⟩ | some r => exact ⟨r, rfl⟩
      obtain ⟨tw, htw⟩ : ∃ tw, (mget (tabR rs) ob).isSome = tw := ⟨_, rfl⟩
      have HR0 := hid hr0
      have HTW := hid htw
      have HALL := hid (show (rs.all fun r => r.pl != ob) = !tw by rw [← htw, mget_tabR_isSome]; simp)
      have hB8 : B ≤ w8.heap.size := Nat.le_trans hBW.out hk8
      clear hput HN8 HE8 HA8 H7 H8 HKB HM7 hE7 hA7 hEl hAl ce ra0 htl hrs hr0 htw ht8
      have ce : w8.cell? ⟨E, 2, none⟩ = some (.int .i64 ob) := cell_at HEA.out.1 2
      go_upto_region 20 with (first | (at_lookup; refine wpList_ilook_ok rfl (.tmp 100) (.tmp 102) 58 56 rfl int_keys Tryd.underlying58 M2 (tabR rs) rfl HF8.out ob rfl HKY.out _ (race_zero _) ?_; rw [HR0.out, HTW.out]) | (refine wpList_store_row rfl 56 (.tmp 16) (.tmp 104) rfl w8.heap.size (rcC r0).toArray rfl rfl 56 _ (heap_alloc_new w8 _) (by rw [List.size_toArray]; exact rc_size _) rfl (rc_one _) ?_))
      refine wp_world (fun w9 => Keep (· < w8.heap.size) w8 w9) (((Keep.refl _ _).alloc _ (fun _ h => h)).setRow _ (by simp)) ?_
      rintro w9 k9
      have K9 := hid k9
      have S9 := hid (SP.out.next k9)
      have F9 := hid (HF8.out.keep k9 HF8.out.lt)
      have L9 := hid (HL8.out.keep k9 (fun b hb => (HL8.out.lt hb).2))
      have KB9 := hid (HK8.out.trans (k9.mono fun b hb => Nat.lt_of_lt_of_le hb hB8))
      have EA9 := hid (And.intro ((k9.block E (Array.getElem?_eq_some_iff.1 HEA.out.1).1).trans HEA.out.1) ((k9.block A (Array.getElem?_eq_some_iff.1 HEA.out.2).1).trans HEA.out.2))
      have hB9 : B ≤ w9.heap.size := Nat.le_trans hB8 k9.size
      clear k9 ce HR0 HTW
      rcases Nat.eq_zero_or_pos L with hL0 | hL0
      · have hfn : foundL rooms l (i + 1) = rs := by rw [HFN.out, show cand rooms l i = [] from List.eq_nil_of_length_eq_zero (by rw [HL.out]; exact hL0)]; simp
        have HFF := hid hfn
        subst hL0
        clear hfn
        go_wp2_with fail
        exact HQ.out _ _ _ _ _ _ _ _ _ _ _ _ _ _ _ _ _ _ _ _ _ _ _ _ _ _ _ _ _ _ _ _ _ _ _ _ _ _ _ _ _ _ _ _ _ _ _ _ _ _ _ _ _ _ _ _ _ _ _ _ _ _ _ _ _ _ _ _ _ _ _ _ _ _ _ _ _ _ _ _ _ _ _ _ _ _ (S9.out) (by rw [HFF.out]; exact F9.out) (KB9.out)
      · have q1 : decide ((0 : Int) < (L : Int)) = true := by simp; omega
        have q2 : decide (0 < L) = true := by simp; omega
        cases tw
        · have hne : cand rooms l i ≠ [] := fun e => by have := HL.out; rw [e] at this; simp at this; omega
          obtain ⟨c, hc⟩ : ∃ c, told l (cand rooms l i) = c := ⟨_, rfl⟩
          have hfn : foundL rooms l (i + 1) = insR (raceOf l c i) rs := by rw [HFN.out, HALL.out, HAC.out, hc, if_pos (by simp [hne])]
          have HFF := hid hfn
          have HCC := hid hc
          have HRO := hid (show raceOf l c i = ⟨ob, (evAt l c).at_, a2, (evAt l c).wr, Ev.wr ⟨g2, d2, ob, a2⟩⟩ from by unfold raceOf; rw [HE2.out])
          have HCH := hid (chosen_walk l (cand rooms l i) (.slice la L lc) w9 _ (L9.out.at_ (acs_each _ _)) hne (by have := HL.out; have := HIL.out; omega))
          rw [hc] at HCH
          clear hfn hc hne
          go_wp2_with fail
          refine HCH.out.mono ?_
          rintro e w10 ⟨rfl, k10⟩
          have K10 := hid k10
          clear k10
          go_upto_region 22 with (refine wpList_store_row rfl 60 (.tmp 18) (.tmp 114) rfl w10.heap.size (acC (evAt l c) c).toArray rfl rfl 60 _ (heap_alloc_new w10 _) (by rw [List.size_toArray]; exact ac_size _ _) rfl (ac_one _ _) ?_)
          refine wp_world (fun wc => Keep (· < w10.heap.size) w10 wc ∧ wc.heap[w10.heap.size]? = some (.cells (acC (evAt l c) c).toArray 60 (0, 0))) ⟨((Keep.refl _ _).alloc _ (fun _ h => h)).setRow _ (by simp), heap_setRow (heap_alloc_new w10 _) _⟩ ?_
          rintro wc ⟨kc, hP⟩
          obtain ⟨P, hPP⟩ : ∃ P, w10.heap.size = P := ⟨_, rfl⟩
          rw [hPP] at hP ⊢
          have k9c := K10.out.trans (kc.mono fun b hb => Nat.lt_of_lt_of_le hb K10.out.size)
          have HP := hid hP
          have EAC := hid (And.intro ((k9c.block E (Array.getElem?_eq_some_iff.1 EA9.out.1).1).trans EA9.out.1) ((k9c.block A (Array.getElem?_eq_some_iff.1 EA9.out.2).1).trans EA9.out.2))
          have HF9 := hid (F9.out.keep k9c F9.out.lt)
          have SC := hid (S9.out.next k9c)
          have KBC := hid (KB9.out.trans (k9c.mono fun b hb => Nat.lt_of_lt_of_le hb hB9))
          have hBc : B ≤ wc.heap.size := Nat.le_trans hB9 k9c.size
          have hE9 := (Array.getElem?_eq_some_iff.1 EAC.out.1).1
          have hA9 := (Array.getElem?_eq_some_iff.1 EAC.out.2).1
          have hP9 := (Array.getElem?_eq_some_iff.1 hP).1
          have ce9 : wc.cell? ⟨E, 2, none⟩ = some (.int .i64 ob) := cell_at EAC.out.1 2
          have ca9 : wc.cell? ⟨E, 3, none⟩ = some (.int .i64 a2) := cell_at EAC.out.1 3
          have cp9 : wc.cell? ⟨P, 3, none⟩ = some (.int .i64 (evAt l c).at_) := cell_at HP.out 3
          have rp9 := range_whole HP.out
          have ra9 := range_whole EAC.out.2
          have htl2 : (tabR rs).length < maxLen := by unfold tabR maxLen; rw [List.length_map]; have := HIL.out; omega
          clear k9c kc hP hPP HCH
          go_wp2_with fail
          refine wp_region_plan [true, true, true, true, true, true, true, true, true, true, true, false, true, false, true, false] (.free 0 (.free 1 (.free 2 (.free 3 (.free 4 (.free 5 (.free 6 (.free 7 (.free 8 (.free 9 (.free 10 (.free 12 (.one 11 (.one 13 (.free 14 (.last 15)))))))))))))))) (fun wx => wx.cell? ⟨E, 2, none⟩ = some (.int .i64 ob) ∧ wx.cell? ⟨E, 3, none⟩ = some (.int .i64 a2) ∧ wx.cell? ⟨P, 3, none⟩ = some (.int .i64 (evAt l c).at_) ∧ wx.rangeAt P 0 (acC (evAt l c) c) ∧ wx.rangeAt A 0 (acC ⟨g2, d2, ob, a2⟩ i)) (by kernel_rfl) (by kernel_rfl) (⟨ce9, ca9, cp9, rp9, ra9⟩) ?_
          iterate 2 (refine plan_free rfl rfl (fun K hK => ?_); go_simp; refine hK _ ?_; clear hK K)
          refine plan_held (.int .i64 ob) rfl rfl (fun w0 h0 => by obtain ⟨h1, h2, h3, h4, h5⟩ := h0; go_simp) (fun K hK => ?_); refine hK _ ?_; clear hK K
          refine plan_free rfl rfl (fun K hK => ?_); go_simp; refine hK _ ?_; clear hK K
          refine plan_held (.int .i64 ob) rfl rfl (fun w0 h0 => by obtain ⟨h1, h2, h3, h4, h5⟩ := h0; go_simp) (fun K hK => ?_); refine hK _ ?_; clear hK K
          iterate 2 (refine plan_free rfl rfl (fun K hK => ?_); go_simp; refine hK _ ?_; clear hK K)
          refine plan_held (.int .i64 (evAt l c).at_) rfl rfl (fun w0 h0 => by obtain ⟨h1, h2, h3, h4, h5⟩ := h0; go_simp) (fun K hK => ?_); refine hK _ ?_; clear hK K
          refine plan_free rfl rfl (fun K hK => ?_); go_simp; refine hK _ ?_; clear hK K
          refine plan_held (.int .i64 a2) rfl rfl (fun w0 h0 => by obtain ⟨h1, h2, h3, h4, h5⟩ := h0; go_simp) (fun K hK => ?_); refine hK _ ?_; clear hK K
          refine plan_load rfl rfl 60 (.tmp 18) rfl P 0 rfl (acC (evAt l c) c) _ (fun wx h => h.2.2.2.1) Tryd.underlying60 rfl (ac_size _ _) (fun K hK => ?_); refine hK _ ?_; clear hK K
          refine plan_load rfl rfl 60 (.tmp 12) rfl A 0 rfl (acC ⟨g2, d2, ob, a2⟩ i) _ (fun wx h => h.2.2.2.2) Tryd.underlying60 rfl (ac_size _ _) (fun K hK => ?_); refine hK _ ?_; clear hK K
          refine plan_one rfl rfl (fun K hK => ?_); go_simp
          refine (writes_walk (evAt l c) c wc.drew).mono ?_
          rintro e wd ⟨rfl, kd⟩
          have kd := ((Keep.refl (· < wc.heap.size) wc).drew).trans kd
          have KD := hid kd
          refine hK _ _ ⟨⟨(kd.cell (x := ⟨E, 2, none⟩) hE9).trans ce9, (kd.cell (x := ⟨E, 3, none⟩) hE9).trans ca9, (kd.cell (x := ⟨P, 3, none⟩) hP9).trans cp9, fun j y hy => (kd.cell (x := ⟨P, 0 + j, none⟩) hP9).trans (rp9 j y hy), fun j y hy => (kd.cell (x := ⟨A, 0 + j, none⟩) hA9).trans (ra9 j y hy)⟩, ?_⟩
          clear hK K kd
          refine plan_one rfl rfl (fun K hK => ?_); go_simp
          refine (writes_walk ⟨g2, d2, ob, a2⟩ i wd).mono ?_
          rintro e we ⟨rfl, ke⟩
          have ke := KD.out.trans (ke.mono fun b hb => Nat.lt_of_lt_of_le hb KD.out.size)
          have KE := hid ke
          have HM9 := hid (HF9.out.keep ke HF9.out.lt)
          refine hK _ _ ⟨⟨(ke.cell (x := ⟨E, 2, none⟩) hE9).trans ce9, (ke.cell (x := ⟨E, 3, none⟩) hE9).trans ca9, (ke.cell (x := ⟨P, 3, none⟩) hP9).trans cp9, fun j y hy => (ke.cell (x := ⟨P, 0 + j, none⟩) hP9).trans (rp9 j y hy), fun j y hy => (ke.cell (x := ⟨A, 0 + j, none⟩) hA9).trans (ra9 j y hy)⟩, ?_⟩
          clear hK K ke
          refine plan_free rfl rfl (fun K hK => ?_); go_simp; refine hK _ ?_; clear hK K
          refine plan_last rfl rfl (fun K hK => wp_istore (.tmp 115) (.tmp 117) (.tmp 129) 58 56 rfl int_keys Tryd.underlying58 M2 (tabR rs) rfl HM9.out htl2 ob rfl HKY.out (rcV ⟨ob, (evAt l c).at_, a2, (evAt l c).wr, Ev.wr ⟨g2, d2, ob, a2⟩⟩) rfl ?_)
          intro wf hmf hgf
          have HF2 := hid (And.intro hmf hgf)
          refine hK _ _ ?_
          clear hK K hmf hgf
          have hm9 := HFF.out
          have hput := mput_tabR (raceOf l c i) rs (by rw [HRO.out]; exact HALL.out)
          rw [HRO.out] at hput hm9
          have hbe := (SC.out.next KE.out).beside HM9.out HMM.out.1 HF2.out.2
          have kfin : Keep (· < B) w0 wf := (KBC.out.trans (KE.out.mono fun b hb => Nat.lt_of_lt_of_le hb hBc)).trans ((Keep.refl (fun b => b < B) we).grown HF2.out.2 (fun b hb => ⟨Nat.lt_of_lt_of_le hb (Nat.le_trans hBc KE.out.size), fun e => by injection e with e; have := HMM.out.2.2; omega⟩))
          have HLAST := hid (And.intro hbe (And.intro (show IMap Tryd.prog 3 wf M2 (tabR (foundL rooms l (i + 1))) from by rw [hm9, ← hput]; exact HF2.out.1) kfin))
          clear hm9 hput hbe kfin
          go_wp2_with fail
          exact HQ.out _ _ _ _ _ _ _ _ _ _ _ _ _ _ _ _ _ _ _ _ _ _ _ _ _ _ _ _ _ _ _ _ _ _ _ _ _ _ _ _ _ _ _ _ _ _ _ _ _ _ _ _ _ _ _ _ _ _ _ _ _ _ _ _ _ _ _ _ _ _ _ _ _ _ _ _ _ _ _ _ _ _ _ _ _ _ (HLAST.out.1) (HLAST.out.2.1) (HLAST.out.2.2)
        · have hfn : foundL rooms l (i + 1) = rs := by rw [HFN.out, HALL.out]; simp
          have HFF := hid hfn
          clear hfn
          go_wp2_with fail
          exact HQ.out _ _ _ _ _ _ _ _ _ _ _ _ _ _ _ _ _ _ _ _ _ _ _ _ _ _ _ _ _ _ _ _ _ _ _ _ _ _ _ _ _ _ _ _ _ _ _ _ _ _ _ _ _ _ _ _ _ _ _ _ _ _ _ _ _ _ _ _ _ _ _ _ _ _ _ _ _ _ _ _ _ _ _ _ _ _ (S9.out) (by rw [HFF.out]; exact F9.out) (KB9.out)
end Go.Proofs.YtalihehmbiohlaaDoor
