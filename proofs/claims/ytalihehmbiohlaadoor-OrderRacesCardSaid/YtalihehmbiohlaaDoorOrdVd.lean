/-
  Step by step: event of the watcher: between the switches.
-/
import Derived.Test.YtalihehmbiohlaaDoorOrdVb
import Derived.Test.YtalihehmbiohlaaDoorOrdVc
namespace Go.Proofs.YtalihehmbiohlaaDoor
open Go.RowKit Go.Maps Go.Proofs.Mem Go.Proofs.Txt Go.Proofs.Ord Go.Proofs.Mp

set_option maxRecDepth 1000000 in
set_option maxHeartbeats 8000000 in
/-- behind the first switch. -/
theorem event_rest {s1 s2 s4 s7 s8 s9 s10 s11 s12 s13 s14 s15 s16 s17 s18 s19 s20 s21 s22 s23 s24 s25 s26 s27 s28 s29 s30 s31 s32 s33 s34 s35 s36 s37 s38 s39 s40 s41 s42 s43 s44 s45 s46 s47 s48 s49 s50 s51 s52 s53 s54 s55 s56 s57 s58 s59 s60 s61 s62 s63 s64 s65 s66 s67 s68 s69 s70 s71 s72 s73 s74 s75 s76 s77 s78 s79 s80 s81 s82 s83 s84 s85 s86 s87 s88 s89 s90 s91 s92 s93 s94 s95 s96 s97 s98 s99 s100 s101 s102 s103 s104 s105 s106 s107 s108 s109 s110 s111 s112 s113 s114 s115 s116 s117 s118 s119 s120 s121 s122 s123 s124 s125 s126 s127 s128 s129 s130 s131 s132 s133 s134 s135 s136 s137 s138 s139 s140 s141 s142 s143 s144 s145 s146 s147 s148 s149 s150 s151 s152 s153 s154 s155 s156 s157 s158 s159 s160 s161 s162 s163 s164 s165 s166 s167 s168 s169 s170 s171 s172 s173 s174 s175 s176 s177 s178 s179 s180 s181 s182 s183 s184 s185 s186 s187 s188 s189 s190 s191 s192 s193 s194 s195 s196 s197 s198 s199 s200 s201 s202 s203 s204 s205 s206 s207 s208 s209 s210 s211 s212 s213 s214 s215 s216 s217 s218 s219 s220 s221 s222 s223 s224 s225 s226 s227 s228 s229 s230 s231 s232 s233 s234 s235 s236 s237 s238 s239 s240 s241 s242 s243 s244 s245 s246 s247 s248 s249 s250 s251 s252 s253 s254 s255 s256 s257 s258 s259 s260 s261 s262 s263 s264 s265 s266 : Value} {rooms : List Int} {B W : Nat} {rv : Value} {M1 M2 M3 n : Nat} {w : World} {lab : Labs} {E : Nat} {s : St} {gn : Nat} {kd obj at_ : Int} {sn : Nat → Nat} {u5 u6 : Value} {wc : World}
    (hgn : gn < 8) (hcut : EvMid B W rv M1 M2 M3 n w lab E ⟨gn, kd, obj, at_⟩ s sn u5 u6 wc) (hn : n ≤ 1000) (hok : Ev.ok ⟨gn, kd, obj, at_⟩ = true) (hwf : (Lit.int .i64 obj).wf = true) (hsn : s.seen rooms ⟨gn, kd, obj, at_⟩ = sn) (hle : s.All fun K => ∀ g, K g ≤ 1000)
    (hlp : ∀ c, (s.pp c).sent.length ≤ 1000 ∧ (s.pp c).got.length ≤ 1000 ∧ (s.pp c).frm.length ≤ 1000) (hr : Cells w (fun b => b < B) rv (rooms.map (Value.int .i64))) (hold : ∀ b, b < B → b < w.heap.size ∧ lab b = .old) :
    Code.wp Tryd.prog (evCode 4) (bodyPost Tryd.prog Tryd.f29 (fun e' w' => ∃ v pb' lab', e' = .returned v ∧ Watch B W rv M1 M2 M3 (n + 2) pb' w' lab' (s.step rooms ⟨gn, kd, obj, at_⟩) ∧ ClkAt w' lab' v (s.clock rooms ⟨gn, kd, obj, at_⟩) ∧ Stay (fun l => l = .old) w lab w' lab')) ⟨#[.pointer (some ⟨W, 0, none⟩), s1, s2, .pointer (some ⟨E, 0, none⟩), s4, u5, u6, s7, s8, s9, s10, s11, s12, s13, s14, s15, s16, s17, s18, s19, s20, s21, s22, s23, s24, s25, s26, s27, s28, s29, s30, s31, s32, s33, s34, s35, s36, s37, s38, s39, s40, s41, s42, s43, s44, s45, s46, s47, s48, s49, s50, s51, s52, s53, s54, s55, s56, s57, s58, s59, s60, s61, s62, s63, s64, s65, s66, s67, s68, s69, s70, s71, s72, s73, s74, s75, s76, s77, s78, s79, s80, s81, s82, s83, s84, s85, s86, s87, s88, s89, s90, s91, s92, s93, s94, s95, s96, s97, s98, s99, s100, s101, s102, s103, s104, s105, s106, s107, s108, s109, s110, s111, s112, s113, s114, s115, s116, s117, s118, s119, s120, s121, s122, s123, s124, s125, s126, s127, s128, s129, s130, s131, s132, s133, s134, s135, s136, s137, s138, s139, s140, s141, s142, s143, s144, s145, s146, s147, s148, s149, s150, s151, s152, s153, s154, s155, s156, s157, s158, s159, s160, s161, s162, s163, s164, s165, s166, s167, s168, s169, s170, s171, s172, s173, s174, s175, s176, s177, s178, s179, s180, s181, s182, s183, s184, s185, s186, s187, s188, s189, s190, s191, s192, s193, s194, s195, s196, s197, s198, s199, s200, s201, s202, s203, s204, s205, s206, s207, s208, s209, s210, s211, s212, s213, s214, s215, s216, s217, s218, s219, s220, s221, s222, s223, s224, s225, s226, s227, s228, s229, s230, s231, s232, s233, s234, s235, s236, s237, s238, s239, s240, s241, s242, s243, s244, s245, s246, s247, s248, s249, s250, s251, s252, s253, s254, s255, s256, s257, s258, s259, s260, s261, s262, s263, s264, s265, s266], []⟩ wc := by
  have HOK := hid hok
  have HWF := hid hwf
  have HSN := hid hsn
  have HLE := hid hle
  have HLP := hid hlp
  have HR := hid hr
  have HOLD := hid hold
  have g2 : (gn : Int) < 8 := by omega
  clear hok hwf hsn hle hlp hr hold
  conv => arg 2; whnf
  obtain ⟨pb4, lab4, hw4, hc4, h6, hE4, zE4, hlE4, hk4⟩ := hcut
  have hw4 : Watch B W rv M1 M2 M3 (n + 1) pb4 wc lab4 (if kd = 5 ∨ kd = 6 then { s with pipe := updI s.pipe obj (some (s.pp obj)) } else s) := hw4
  obtain ⟨s4, hs4⟩ : ∃ s4, (if kd = 5 ∨ kd = 6 then { s with pipe := updI s.pipe obj (some (s.pp obj)) } else s) = s4 := ⟨_, rfl⟩
  rw [hs4] at hw4
  have HS4 := hid hs4
  have H6 := hid (show (kd = 5 ∨ kd = 6) → u6 = .pointer (some ⟨pb4 obj, 0, none⟩) from h6)
  obtain ⟨xa, xn, xc, rfl⟩ := hc4.form
  have HW4 := hid hw4
  have HC4 := hid hc4
  have HE4 := hid (And.intro hE4 (And.intro zE4 hlE4))
  have HK4 := hid hk4
  have cg : wc.cell? ⟨E, 0, none⟩ = some (.int .i64 (gn : Int)) := cell_at hE4 0
  obtain ⟨i0, hi0, hz0, hs0, hb0⟩ := int_info
  have lt1 : (gn : Int) < (gn : Int) + 1 := by omega
  have mk : ∀ w0 : World, (Instr.makeSlice 32 (.int .i64 ((gn : Int) + 1)) (.int .i64 ((gn : Int) + 1))).run Tryd.prog w0 = .ok (.slice (some ⟨w0.heap.size, 0, none⟩) (gn + 1) (gn + 1)) (w0.alloc (.cells (ints .i64 (List.replicate (gn + 1) 0)).toArray 3)) := fun w0 => make_ints (P := Tryd.prog) 32 3 i0 .i64 8 Tryd.underlying32 hi0 hz0 hs0 hb0 (gn + 1) (gn + 1) (Nat.le_refl _) (by omega) (by omega) w0
  have hmle : sn gn ≤ 1000 := by rw [← HSN.out]; exact HLE.out.seen (fun K L hK hL => join_le hK hL) rooms _ gn
  obtain ⟨m, hm⟩ : ∃ m, sn gn = m := ⟨_, rfl⟩
  rw [hm] at hmle
  have HM := hid hm
  have HR0 := hid HR.out
  clear hs4 h6 hw4 hc4 hE4 zE4 hlE4 hk4 hi0 hz0 hs0 hb0 hm HR HLE
  go_upto_region 21 with fail
  clear mk
  refine wp_world (fun w5 => Keep (· < wc.heap.size) wc w5 ∧ w5.heap[wc.heap.size]? = some (.cells (ints .i64 (List.replicate (gn + 1) 0)).toArray 3 (0, 0)) ∧ wc.heap.size < w5.heap.size) ⟨(Keep.refl _ _).alloc _ (fun _ h => h), heap_alloc_new wc _, by simp⟩ ?_
  rintro w5 ⟨k5, hO5, z5⟩
  obtain ⟨O, hO⟩ : ∃ O, O = wc.heap.size := ⟨_, rfl⟩
  have HS5 := hid (Stay.fresh (fun _ => True) lab4 .misc k5)
  rw [← hO] at hO5 z5 HS5 ⊢
  obtain ⟨lab5, hlab5⟩ : ∃ lab5, lab5 = rel lab4 O .misc := ⟨_, rfl⟩
  have hlO : lab5 O = .misc := by rw [hlab5]; exact rel_same _ _ _
  rw [← hlab5] at HS5
  have HW5 := hid (HW4.out.stay HS5.out (fun _ _ => trivial))
  have HC5 := hid (HC4.out.stay HS5.out trivial)
  have HE5 := hid (And.intro ((HS5.out.keep.block E ⟨HE4.out.2.1, trivial⟩).trans HE4.out.1) (And.intro (Nat.lt_of_lt_of_le HE4.out.2.1 HS5.out.keep.size) ((HS5.out.lab E HE4.out.2.1).trans HE4.out.2.2)))
  have HK5 := hid (HK4.out.trans (HS5.out.old_of trivial))
  have HO5 := hid (And.intro hO5 (And.intro z5 hlO))
  have cg5 : w5.cell? ⟨E, 0, none⟩ = some (.int .i64 (gn : Int)) := cell_at HE5.out.1 0
  have fO5 : ∀ i, w5.frozen? ⟨O, i, none⟩ = false := fun i => frozen_at hO5 i
  have zO5 : w5.cell? ⟨O, gn, none⟩ = some (.int .i64 0) := by rw [cell_at hO5, ints_get _ _ _ (by simp), List.getD_eq_getElem?_getD, List.getElem?_replicate]; simp
  clear hO hO5 z5 k5 hlab5 hlO cg HS5 HW4 HC4 HE4 HK4
  refine wp_region_plan [true, true, true, true, true, true, false, true, true, false] (.free 0 (.free 1 (.free 2 (.free 3 (.free 4 (.free 5 (.one 6 (.free 7 (.free 8 (.last 9)))))))))) (fun wx => wx.cell? ⟨E, 0, none⟩ = some (.int .i64 (gn : Int))) (by kernel_rfl) (by kernel_rfl) (cg5) ?_
  iterate 2 (refine plan_free rfl rfl (fun K hK => ?_); go_simp; refine hK _ ?_; clear hK K)
  refine plan_held (.int .i64 (gn : Int)) rfl rfl (fun w0 h0 => by go_simp) (fun K hK => ?_); refine hK _ ?_; clear hK K
  iterate 2 (refine plan_free rfl rfl (fun K hK => ?_); go_simp; refine hK _ ?_; clear hK K)
  refine plan_held (.int .i64 (gn : Int)) rfl rfl (fun w0 h0 => by go_simp) (fun K hK => ?_); refine hK _ ?_; clear hK K
  refine plan_one rfl rfl (fun K hK => ?_); go_simp
  refine (get_nat _ (short sn) gn w5.drew _ (show Cells w5.drew _ _ _ from HC5.out)).mono ?_
  rw [short_get sn gn hgn, HM.out]
  rintro e w6 ⟨rfl, k6⟩
  have k6 := ((Keep.refl (fun _ => True) w5).drew).trans k6
  have K6 := hid k6
  refine hK _ _ ⟨(k6.cell (x := ⟨E, 0, none⟩) trivial).trans cg5, ?_⟩
  clear hK K
  iterate 2 (refine plan_free rfl rfl (fun K hK => ?_); go_simp; refine hK _ ?_; clear hK K)
  have hO6 := (k6.block O trivial).trans HO5.out.1
  have fO6 : w6.frozen? ⟨O, gn, none⟩ = false := frozen_at hO6 gn
  have zO6 := (k6.cell (x := ⟨O, gn, none⟩) trivial).trans zO5
  clear k6 zO5 fO5
  refine plan_last rfl rfl (fun K hK => ?_); go_simp
  refine hK _ _ ?_
  clear hK K
  rw [show IntKind.i64.wrap ((m : Int) + 1) = (m : Int) + 1 from by rw [IntKind.wrap_i64]; omega]
  go_upto_region 22 with fail
  refine wp_world (fun w7 => Keep (· ≠ O) w6 w7 ∧ w7.heap[O]? = some (.cells ((ints .i64 (List.replicate (gn + 1) 0)).set gn (.int .i64 ((m : Int) + 1))).toArray 3 (0, 0))) ⟨(Keep.refl _ _).setCell _ (by simp), set_at hO6 gn _⟩ ?_
  rintro w7 ⟨k7, hO7⟩
  rw [show (Value.int .i64 ((m : Int) + 1)) = Value.int .i64 ((m + 1 : Nat) : Int) by simp, ints_set, show (List.replicate (gn + 1) 0).set gn (m + 1) = short (single gn (m + 1)) by rw [short_single gn (m + 1) hgn (by omega), List.replicate_succ', List.set_append_right _ _ (by simp)]; simp] at hO7
  have HCO := hid (show Cells w7 (fun _ => True) (.slice (some ⟨O, 0, none⟩) (gn + 1) (gn + 1)) (ints .i64 (short (single gn (m + 1)))) from by
    have hlen : (ints .i64 (short (single gn (m + 1)))).length = gn + 1 := by rw [ints_length, short_single gn (m + 1) hgn (by omega)]; simp
    have := Cells.of_block (w := w7) (b := O) (off := 0) (n := gn + 1) (cap := gn + 1) (p := fun _ => True) hO7 trivial (by rw [hlen]; omega) (Nat.le_refl _) (by unfold maxLen; omega)
    rw [List.drop_zero, List.take_of_length_le (by rw [hlen]; exact Nat.le_refl _)] at this
    exact this)
  have HS7 := hid (show Stay (fun l => l ≠ .misc) w5 lab5 w7 lab5 from ⟨(K6.out.mono fun _ _ => trivial).trans (k7.mono fun b hb e => hb.2 (by rw [e]; exact HO5.out.2.2)), fun _ _ => rfl⟩)
  have hEO : E ≠ O := fun e => by have h1 := HE5.out.1; rw [e, HO5.out.1] at h1; injection h1 with h1; injection h1 with _ h2; cases h2
  have HW7 := hid (HW5.out.stay HS7.out (fun _ h => h))
  have HC7 := hid (HC5.out.stay HS7.out (by simp))
  have HE7 := hid (And.intro ((k7.block E hEO).trans ((K6.out.block E trivial).trans HE5.out.1)) (And.intro (Nat.lt_of_lt_of_le HE5.out.2.1 HS7.out.keep.size) HE5.out.2.2))
  have HK7 := hid (HK5.out.trans (HS7.out.old_of (by simp)))
  clear k7 hO7 hO6 fO6 zO6 cg5 HW5 HC5 HE5 HK5 HO5 K6 HS7 hEO
  go_wp2_with fail
  refine (join_clk _ _ _ _ w7 lab5 _ _ HC7.out HCO.out).mono ?_
  rintro e w8 ⟨ra, rn, rc, lab8, rfl, r1, r2, r3⟩
  obtain ⟨C, hC⟩ : ∃ C, join sn (single gn (m + 1)) = C := ⟨_, rfl⟩
  rw [hC] at r1
  have HCC := hid (show s.clock rooms ⟨gn, kd, obj, at_⟩ = C from by rw [← hC, ← HM.out, ← HSN.out]; rfl)
  have HW8 := hid (HW7.out.stay r2 (fun _ _ => trivial))
  have HC8 := hid r1
  have HE8 := hid (And.intro ((r2.keep.block E ⟨HE7.out.2.1, trivial⟩).trans HE7.out.1) (And.intro (Nat.lt_of_lt_of_le HE7.out.2.1 r2.keep.size) ((r2.lab E HE7.out.2.1).trans HE7.out.2.2)))
  have HK8 := hid (HK7.out.trans (r2.old_of trivial))
  clear hC r1 r2 r3 HW7 HC7 HE7 HK7 HCO HM HSN hmle
  have cg8 : w8.cell? ⟨E, 0, none⟩ = some (.int .i64 (gn : Int)) := cell_at HE8.out.1 0
  obtain ⟨ya, yn, yc, cy, _⟩ := HW8.out.own.slot gn hgn
  have fW8 : w8.frozen? ⟨W, 1 + gn, none⟩ = false := HW8.out.own.unfrozen _
  go_upto_region 23 with fail
  refine wp_region_plan [true, true, true, true, true, true, true, false] (.free 0 (.free 1 (.free 2 (.free 3 (.free 4 (.free 5 (.free 6 (.last 7)))))))) (fun wx => wx.cell? ⟨E, 0, none⟩ = some (.int .i64 (gn : Int))) (by kernel_rfl) (by kernel_rfl) (cg8) ?_
  iterate 2 (refine plan_free rfl rfl (fun K hK => ?_); go_simp; refine hK _ ?_; clear hK K)
  refine plan_held (.int .i64 (gn : Int)) rfl rfl (fun w0 h0 => by go_simp) (fun K hK => ?_); refine hK _ ?_; clear hK K
  iterate 4 (refine plan_free rfl rfl (fun K hK => ?_); go_simp; refine hK _ ?_; clear hK K)
  refine plan_last rfl rfl (fun K hK => ?_)
  have cy9 : w8.drew.cell? ⟨W, 1 + gn, none⟩ = _ := cy
  have fW9 : w8.drew.frozen? ⟨W, 1 + gn, none⟩ = false := fW8
  go_simp
  refine hK _ _ ?_
  clear hK K cy9 fW9
  obtain ⟨w9, hw9⟩ : ∃ w9, (w8.setCell ⟨W, 1 + gn, none⟩ (.slice ra rn rc)).drew = w9 := ⟨_, rfl⟩
  have h8 := HW8.out.setOwn gn hgn (.slice ra rn rc) C HC8.out
  have h9 := And.intro (h8.1.stay (Stay.drew (fun _ => True) _ lab8) (fun _ _ => trivial)) (h8.2.trans (Stay.drew (fun l => l ≠ .wat) _ lab8))
  clear h8
  rw [hw9] at h9 ⊢
  obtain ⟨s9, hs9⟩ : ∃ s9 : St, { s4 with own := upd s4.own gn C } = s9 := ⟨_, rfl⟩
  rw [hs9] at h9
  have HS9 := hid hs9
  have st9 := h9.2

  rename_i Ka
  refine Ka _ _ ?_
  have ET : EvTwo rooms B W rv M1 M2 M3 n w lab E ⟨gn, kd, obj, at_⟩ s C (.slice ra rn rc) u6 w9 := ⟨pb4, lab8, s4, HS4.out, HCC.out, HS9.out ▸ h9.1, HC8.out.stay st9 (by simp), H6.out, ⟨(st9.keep.block E ⟨HE8.out.2.1, by rw [HE8.out.2.2]; simp⟩).trans HE8.out.1, Nat.lt_of_lt_of_le HE8.out.2.1 st9.keep.size, (st9.lab E HE8.out.2.1).trans HE8.out.2.2⟩, HK8.out.trans (st9.old_of (by simp))⟩
  by_cases k5 : kd = 5
  · exact event_send hgn ET hn HOK.out HWF.out HLP.out HR0.out HOLD.out k5
  · exact event_two hgn ET hn HOK.out HWF.out HLP.out HR0.out HOLD.out k5
end Go.Proofs.YtalihehmbiohlaaDoor
