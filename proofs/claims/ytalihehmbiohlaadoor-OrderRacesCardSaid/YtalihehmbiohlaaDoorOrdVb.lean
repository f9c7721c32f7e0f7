/-
  Step by step: event of the watcher: the second switch, but for a send.
-/
import Derived.Test.YtalihehmbiohlaaDoorOrdVa
namespace Go.Proofs.YtalihehmbiohlaaDoor
open Go.RowKit Go.Maps Go.Proofs.Mem Go.Proofs.Txt Go.Proofs.Ord Go.Proofs.Mp

set_option maxRecDepth 1000000 in
set_option maxHeartbeats 8000000 in
/-- the second switch, where nothing is sent. -/
theorem event_two {s1 s2 s4 s7 s8 s9 s10 s11 s12 s13 s14 s15 s16 s17 s18 s19 s20 s21 s22 s23 s24 s25 s26 s27 s28 s29 s30 s31 s32 s33 s34 s35 s36 s37 s38 s39 s40 s41 s42 s43 s44 s45 s46 s47 s48 s49 s50 s51 s52 s53 s54 s55 s56 s57 s58 s59 s60 s61 s62 s63 s64 s65 s66 s67 s68 s69 s70 s71 s72 s73 s74 s75 s76 s77 s78 s79 s80 s81 s82 s83 s84 s85 s86 s87 s88 s89 s90 s91 s92 s93 s94 s95 s96 s97 s98 s99 s100 s101 s102 s103 s104 s105 s106 s107 s108 s109 s110 s111 s112 s113 s114 s115 s116 s117 s118 s119 s120 s121 s122 s123 s124 s125 s126 s127 s128 s129 s130 s131 s132 s133 s134 s135 s136 s137 s138 s139 s140 s141 s142 s143 s144 s145 s146 s147 s148 s149 s150 s151 s152 s153 s154 s155 s156 s157 s158 s159 s160 s161 s162 s163 s164 s165 s166 s167 s168 s169 s170 s171 s172 s173 s174 s175 s176 s177 s178 s179 s180 s181 s182 s183 s184 s185 s186 s187 s188 s189 s190 s191 s192 s193 s194 s195 s196 s197 s198 s199 s200 s201 s202 s203 s204 s205 s206 s207 s208 s209 s210 s211 s212 s213 s214 s215 s216 s217 s218 s219 s220 s221 s222 s223 s224 s225 s226 s227 s228 s229 s230 s231 s232 s233 s234 s235 s236 s237 s238 s239 s240 s241 s242 s243 s244 s245 s246 s247 s248 s249 s250 s251 s252 s253 s254 s255 s256 s257 s258 s259 s260 s261 s262 s263 s264 s265 s266 : Value} {rooms : List Int} {B W : Nat} {rv : Value} {M1 M2 M3 n : Nat} {w : World} {lab : Labs} {E : Nat} {s : St} {gn : Nat} {kd obj at_ : Int} {C : Nat → Nat} {ra : Option Addr} {rn rc : Nat} {u6 : Value} {w9 : World}
    (hgn : gn < 8) (h : EvTwo rooms B W rv M1 M2 M3 n w lab E ⟨gn, kd, obj, at_⟩ s C (.slice ra rn rc) u6 w9) (hn : n ≤ 1000) (hok : Ev.ok ⟨gn, kd, obj, at_⟩ = true) (hwf : (Lit.int .i64 obj).wf = true) (hlp : ∀ c, (s.pp c).sent.length ≤ 1000 ∧ (s.pp c).got.length ≤ 1000 ∧ (s.pp c).frm.length ≤ 1000)
    (hr : Cells w (fun b => b < B) rv (rooms.map (Value.int .i64))) (hold : ∀ b, b < B → b < w.heap.size ∧ lab b = .old) (k5 : kd ≠ 5) :
    Code.wp Tryd.prog (evCode 8) (bodyPost Tryd.prog Tryd.f29 (fun e' w' => ∃ v pb' lab', e' = .returned v ∧ Watch B W rv M1 M2 M3 (n + 2) pb' w' lab' (s.step rooms ⟨gn, kd, obj, at_⟩) ∧ ClkAt w' lab' v (s.clock rooms ⟨gn, kd, obj, at_⟩) ∧ Stay (fun l => l = .old) w lab w' lab')) ⟨#[.pointer (some ⟨W, 0, none⟩), s1, s2, .pointer (some ⟨E, 0, none⟩), s4, .slice ra rn rc, u6, s7, s8, s9, s10, s11, s12, s13, s14, s15, s16, s17, s18, s19, s20, s21, s22, s23, s24, s25, s26, s27, s28, s29, s30, s31, s32, s33, s34, s35, s36, s37, s38, s39, s40, s41, s42, s43, s44, s45, s46, s47, s48, s49, s50, s51, s52, s53, s54, s55, s56, s57, s58, s59, s60, s61, s62, s63, s64, s65, s66, s67, s68, s69, s70, s71, s72, s73, s74, s75, s76, s77, s78, s79, s80, s81, s82, s83, s84, s85, s86, s87, s88, s89, s90, s91, s92, s93, s94, s95, s96, s97, s98, s99, s100, s101, s102, s103, s104, s105, s106, s107, s108, s109, s110, s111, s112, s113, s114, s115, s116, s117, s118, s119, s120, s121, s122, s123, s124, s125, s126, s127, s128, s129, s130, s131, s132, s133, s134, s135, s136, s137, s138, s139, s140, s141, s142, s143, s144, s145, s146, s147, s148, s149, s150, s151, s152, s153, s154, s155, s156, s157, s158, s159, s160, s161, s162, s163, s164, s165, s166, s167, s168, s169, s170, s171, s172, s173, s174, s175, s176, s177, s178, s179, s180, s181, s182, s183, s184, s185, s186, s187, s188, s189, s190, s191, s192, s193, s194, s195, s196, s197, s198, s199, s200, s201, s202, s203, s204, s205, s206, s207, s208, s209, s210, s211, s212, s213, s214, s215, s216, s217, s218, s219, s220, s221, s222, s223, s224, s225, s226, s227, s228, s229, s230, s231, s232, s233, s234, s235, s236, s237, s238, s239, s240, s241, s242, s243, s244, s245, s246, s247, s248, s249, s250, s251, s252, s253, s254, s255, s256, s257, s258, s259, s260, s261, s262, s263, s264, s265, s266], []⟩ w9 := by
  obtain ⟨pb4, lab8, s4, hs4, hcc, hw9, hc9, h6, he9, hk9⟩ := h
  have HS4 := hid (show (if kd = 5 ∨ kd = 6 then { s with pipe := updI s.pipe obj (some (s.pp obj)) } else s) = s4 from hs4)
  have HCC := hid hcc
  obtain ⟨s9, hs9⟩ : ∃ s9 : St, { s4 with own := upd s4.own gn C } = s9 := ⟨_, rfl⟩
  have HW9 := hid (show Watch B W rv M1 M2 M3 (n + 1) pb4 w9 lab8 s9 from hs9 ▸ hw9)
  have HS9 := hid hs9
  have HC9 := hid hc9
  have H6 := hid (show (kd = 5 ∨ kd = 6) → u6 = .pointer (some ⟨pb4 obj, 0, none⟩) from h6)
  have HE9 := hid he9
  have HK9 := hid hk9
  have HOK := hid hok
  have HKY := hid (key_ok hwf)
  have HWF := hid hwf
  have HLP := hid hlp
  have HR0 := hid hr
  have HOLD := hid hold
  clear hs4 hcc hs9 hw9 hc9 h6 he9 hk9 hok hwf hlp hr hold
  conv => arg 2; whnf
  have cg9 : w9.cell? ⟨E, 0, none⟩ = some (.int .i64 (gn : Int)) := cell_at HE9.out.1 0
  have ck9 : w9.cell? ⟨E, 1, none⟩ = some (.int .i64 kd) := cell_at HE9.out.1 1
  have cb9 : w9.cell? ⟨E, 2, none⟩ = some (.int .i64 obj) := cell_at HE9.out.1 2
  have HST := hid (show ∀ (pb' : Int → Nat) (lab' : Labs) (wz : World) (v : Value) (sz : St), Watch B W rv M1 M2 M3 (n + 2) pb' wz lab' sz → ClkAt wz lab' v C → Stay (fun l => l = .old) w lab wz lab' → s.step rooms ⟨gn, kd, obj, at_⟩ = sz → ∃ v_1 pb' lab', Ending.returned v = Ending.returned v_1 ∧ Watch B W rv M1 M2 M3 (n + 2) pb' wz lab' (s.step rooms ⟨gn, kd, obj, at_⟩) ∧ ClkAt wz lab' v_1 (s.clock rooms ⟨gn, kd, obj, at_⟩) ∧ Stay (fun l => l = .old) w lab wz lab' from fun pb' lab' wz v sz h1 h2 h3 h4 => ⟨v, pb', lab', rfl, by rw [h4]; exact h1, by rw [HCC.out]; exact h2, h3⟩)
  by_cases k4 : kd = 4
  · skip
    subst k4
    obtain ⟨_, c9, _, _⟩ := HW9.out.own.cells
    obtain ⟨t, ht, hlt, htn, hcs⟩ := HW9.out.mut_
    have HT := hid (And.intro ht (And.intro hlt htn))
    have HCS := hid hcs
    obtain ⟨ma, mn, mc, hmx⟩ := (hcs obj).form
    have hq := hcs obj
    rw [hmx] at hq
    have HQ := hid hq
    have HMX := hid hmx
    clear ht hlt htn hcs hq hmx
    go_wp2_with fail
    refine wp_region_plan [true, true, true, true, true, true, true, true, true, true, true, true, false, true, false, false] (.free 0 (.free 1 (.free 2 (.free 3 (.free 4 (.free 5 (.free 6 (.free 7 (.free 8 (.free 9 (.free 10 (.free 11 (.free 13 (.one 12 (.one 14 (.last 15)))))))))))))))) (fun wx => wx.cell? ⟨W, 9, none⟩ = some (.map (some M1)) ∧ wx.cell? ⟨E, 2, none⟩ = some (.int .i64 obj)) (by kernel_rfl) (by kernel_rfl) (⟨c9, cb9⟩) ?_
    iterate 3 (refine plan_free rfl rfl (fun K hK => ?_); go_simp; refine hK _ ?_; clear hK K)
    refine plan_held (.map (some M1)) rfl rfl (fun w0 h0 => by obtain ⟨h1, h2⟩ := h0; go_simp) (fun K hK => ?_); refine hK _ ?_; clear hK K
    refine plan_free rfl rfl (fun K hK => ?_); go_simp; refine hK _ ?_; clear hK K
    refine plan_held (.int .i64 obj) rfl rfl (fun w0 h0 => by obtain ⟨h1, h2⟩ := h0; go_simp) (fun K hK => ?_); refine hK _ ?_; clear hK K
    iterate 3 (refine plan_free rfl rfl (fun K hK => ?_); go_simp; refine hK _ ?_; clear hK K)
    refine plan_held (.map (some M1)) rfl rfl (fun w0 h0 => by obtain ⟨h1, h2⟩ := h0; go_simp) (fun K hK => ?_); refine hK _ ?_; clear hK K
    refine plan_free rfl rfl (fun K hK => ?_); go_simp; refine hK _ ?_; clear hK K
    refine plan_held (.int .i64 obj) rfl rfl (fun w0 h0 => by obtain ⟨h1, h2⟩ := h0; go_simp) (fun K hK => ?_); refine hK _ ?_; clear hK K
    refine plan_free rfl rfl (fun K hK => ?_); go_simp; refine hK _ ?_; clear hK K
    refine plan_one rfl rfl (fun K hK => wp_ilook (.tmp 152) (.tmp 154) 70 32 rfl int_keys Tryd.underlying70 M1 t rfl (show IMap Tryd.prog 3 w9.drew M1 t from HT.out.1) obj rfl HKY.out _ (ints_zero _) ?_)
    rw [HMX.out]
    refine hK _ _ ⟨⟨c9, cb9⟩, ?_⟩
    clear hK K
    refine plan_one rfl rfl (fun K hK => ?_); go_simp
    refine (join_clk _ _ _ _ w9.drew lab8 _ _ (show Cells w9.drew _ _ _ from HQ.out) (show Cells w9.drew _ _ _ from HC9.out)).mono ?_
    rintro e w10 ⟨ja, jn, jc, lab10, rfl, r1, r2, r3⟩
    have st10 := (Stay.drew (fun _ => True) w9 lab8).trans r2
    have J := hid (And.intro r1 st10)
    have HT10 := hid (IMap.keep (p := fun b => b < w9.heap.size) (show IMap Tryd.prog 3 w9.drew M1 t from HT.out.1) r3 HT.out.1.lt)
    have htl : t.length < maxLen := by have := HT.out.2.2; unfold maxLen; omega
    refine hK _ _ ⟨⟨(r3.cell (x := ⟨W, 9, none⟩) HW9.out.own.lt).trans c9, (r3.cell (x := ⟨E, 2, none⟩) HE9.out.2.1).trans cb9⟩, ?_⟩
    clear hK K r1 r2 r3 st10
    refine plan_last rfl rfl (fun K hK => wp_istore (.tmp 146) (.tmp 148) (.tmp 157) 70 32 rfl int_keys Tryd.underlying70 M1 t rfl HT10.out htl obj rfl HKY.out (.slice ja jn jc) rfl ?_)
    intro w11 hm11 hg11
    have W10 := HW9.out.stay J.out.2 (fun _ _ => trivial)
    have H11 := hid (W10.putMut ((J.out.2.lab M1 HT.out.1.lt).trans HT.out.2.1) HT.out.2.2 (fun c => (HCS.out c).stay J.out.2 trivial) J.out.1 hm11 hg11)
    have HC11 := hid ((HC9.out.stay J.out.2 trivial).stay H11.out.2 (by simp))
    have HK11 := hid ((HK9.out.trans (J.out.2.old_of trivial)).trans (H11.out.2.old_of (by simp)))
    refine hK _ _ ?_
    clear hK K hm11 hg11 W10
    go_wp2_with fail
    go_ret
    obtain ⟨v1, pb1, lab1, e1, h1, h2, h3⟩ := HST.out _ _ _ _ _ H11.out.1 HC11.out HK11.out (by rw [step_unlock, HCC.out, ← HS9.out, ← HS4.out, if_neg (by decide)]; rfl)
    first | exact ⟨v1, pb1, lab1, e1, h1, h2, h3⟩ | exact ⟨v1, e1, pb1, lab1, h1, h2, h3⟩
  by_cases kA : kd = 7 ∨ kd = 8 ∨ kd = 9
  · rcases kA with rfl | rfl | rfl
    all_goals
      obtain ⟨_, _, c10, _⟩ := HW9.out.own.cells
      obtain ⟨t, ht, hlt, htn, hcs⟩ := HW9.out.atm
      have htl : t.length < maxLen := by unfold maxLen; omega
      have HT := hid (And.intro ht (And.intro hlt htn))
      have HCS := hid hcs
      clear ht hlt htn hcs
      go_wp2_with fail
      refine wp_region_plan [true, true, true, true, true, true, true, false] (.free 0 (.free 1 (.free 2 (.free 3 (.free 4 (.free 5 (.free 6 (.last 7)))))))) (fun wx => wx.cell? ⟨W, 10, none⟩ = some (.map (some M2)) ∧ wx.cell? ⟨E, 2, none⟩ = some (.int .i64 obj)) (by kernel_rfl) (by kernel_rfl) (⟨c10, cb9⟩) ?_
      iterate 3 (refine plan_free rfl rfl (fun K hK => ?_); go_simp; refine hK _ ?_; clear hK K)
      refine plan_held (.map (some M2)) rfl rfl (fun w0 h0 => by obtain ⟨h1, h2⟩ := h0; go_simp) (fun K hK => ?_); refine hK _ ?_; clear hK K
      refine plan_free rfl rfl (fun K hK => ?_); go_simp; refine hK _ ?_; clear hK K
      refine plan_held (.int .i64 obj) rfl rfl (fun w0 h0 => by obtain ⟨h1, h2⟩ := h0; go_simp) (fun K hK => ?_); refine hK _ ?_; clear hK K
      refine plan_free rfl rfl (fun K hK => ?_); go_simp; refine hK _ ?_; clear hK K
      refine plan_last rfl rfl (fun K hK => wp_istore (.tmp 165) (.tmp 167) (.tmp 168) 70 32 rfl int_keys Tryd.underlying70 M2 t rfl (show IMap Tryd.prog 3 w9.drew M2 t from HT.out.1) htl obj rfl HKY.out (.slice ra rn rc) rfl ?_)
      intro w11 hm11 hg11
      have W10 := HW9.out.stay (Stay.drew (fun _ => True) w9 lab8) (fun _ _ => trivial)
      have H11 := hid (W10.putAtm HT.out.2.1 HT.out.2.2 HCS.out (HC9.out.stay (Stay.drew (fun _ => True) w9 lab8) trivial) hm11 hg11)
      have HC11 := hid ((HC9.out.stay (Stay.drew (fun _ => True) w9 lab8) trivial).stay H11.out.2 (by simp))
      have HK11 := hid ((HK9.out.trans (Stay.drew _ w9 lab8)).trans (H11.out.2.old_of (by simp)))
      refine hK _ _ ?_
      clear hK K hm11 hg11 W10
      go_wp2_with fail
      go_ret
      obtain ⟨v1, pb1, lab1, e1, h1, h2, h3⟩ := HST.out _ _ _ _ _ H11.out.1 HC11.out HK11.out (by rw [step_atom _ _ _ _ _ (by simp), HCC.out, ← HS9.out, ← HS4.out, if_neg (by decide)]; rfl)
      first | exact ⟨v1, pb1, lab1, e1, h1, h2, h3⟩ | exact ⟨v1, e1, pb1, lab1, h1, h2, h3⟩
  by_cases k10 : kd = 10
  · skip
    subst k10
    obtain ⟨o1, o2⟩ : 0 ≤ obj ∧ obj < 8 := by have := HOK.out; simp [Ev.ok] at this; omega
    obtain ⟨on_, rfl⟩ : ∃ k : Nat, obj = (k : Int) := ⟨obj.toNat, by omega⟩
    have hon : on_ < 8 := by omega
    obtain ⟨qa, qn, qc, cq, hq⟩ := HW9.out.own.slot on_ hon
    have HQ := hid hq
    clear hq
    go_wp2_with fail
    refine wp_region_plan [true, true, true, true, true, true, true, true, true, true, true, false, true, true, true, false] (.free 0 (.free 1 (.free 2 (.free 3 (.free 4 (.free 5 (.free 6 (.free 7 (.free 8 (.free 9 (.free 10 (.free 12 (.free 13 (.one 11 (.free 14 (.last 15)))))))))))))))) (fun wx => wx.cell? ⟨W, 1 + on_, none⟩ = some (.slice qa qn qc) ∧ wx.cell? ⟨E, 2, none⟩ = some (.int .i64 (on_ : Int))) (by kernel_rfl) (by kernel_rfl) (⟨cq, cb9⟩) ?_
    iterate 2 (refine plan_free rfl rfl (fun K hK => ?_); go_simp; refine hK _ ?_; clear hK K)
    refine plan_held (.int .i64 (on_ : Int)) rfl rfl (fun w0 h0 => by obtain ⟨h1, h2⟩ := h0; go_simp) (fun K hK => ?_); refine hK _ ?_; clear hK K
    iterate 2 (refine plan_free rfl rfl (fun K hK => ?_); go_simp; refine hK _ ?_; clear hK K)
    refine plan_held (.int .i64 (on_ : Int)) rfl rfl (fun w0 h0 => by obtain ⟨h1, h2⟩ := h0; go_simp) (fun K hK => ?_); refine hK _ ?_; clear hK K
    iterate 3 (refine plan_free rfl rfl (fun K hK => ?_); go_simp; refine hK _ ?_; clear hK K)
    refine plan_held (.slice qa qn qc) rfl rfl (fun w0 h0 => by obtain ⟨h1, h2⟩ := h0; go_simp) (fun K hK => ?_); refine hK _ ?_; clear hK K
    iterate 3 (refine plan_free rfl rfl (fun K hK => ?_); go_simp; refine hK _ ?_; clear hK K)
    refine plan_one rfl rfl (fun K hK => ?_); go_simp
    refine (join_clk _ _ _ _ w9.drew lab8 _ _ (show Cells w9.drew _ _ _ from HQ.out) (show Cells w9.drew _ _ _ from HC9.out)).mono ?_
    rintro e w10 ⟨ja, jn, jc, lab10, rfl, r1, r2, r3⟩
    have st10 := (Stay.drew (fun _ => True) w9 lab8).trans r2
    have J := hid (And.intro r1 st10)
    have W10 := hid (HW9.out.stay st10 (fun _ _ => trivial))
    have cq10 := (r3.cell (x := ⟨W, 1 + on_, none⟩) HW9.out.own.lt).trans cq
    have fq10 := W10.out.own.unfrozen (1 + on_)
    refine hK _ _ ⟨⟨cq10, (r3.cell (x := ⟨E, 2, none⟩) HE9.out.2.1).trans cb9⟩, ?_⟩
    clear hK K r1 r2 r3 st10
    refine plan_free rfl rfl (fun K hK => ?_); go_simp; refine hK _ ?_; clear hK K
    refine plan_last rfl rfl (fun K hK => ?_)
    go_simp
    refine hK _ _ ?_
    clear hK K cq10 fq10
    have H11 := hid (W10.out.setOwn on_ hon (.slice ja jn jc) _ J.out.1)
    have HC11 := hid ((HC9.out.stay J.out.2 trivial).stay H11.out.2 (by simp))
    have HK11 := hid ((HK9.out.trans (J.out.2.old_of trivial)).trans (H11.out.2.old_of (by simp)))
    go_wp2_with fail
    go_ret
    obtain ⟨v1, pb1, lab1, e1, h1, h2, h3⟩ := HST.out _ _ _ _ _ (H11.out.1.more (Nat.le_succ _)) HC11.out HK11.out (by rw [step_go, HCC.out, ← HS9.out, ← HS4.out, if_neg (by decide)]; rfl)
    first | exact ⟨v1, pb1, lab1, e1, h1, h2, h3⟩ | exact ⟨v1, e1, pb1, lab1, h1, h2, h3⟩
  by_cases k6 : kd = 6
  · skip
    subst k6
    have e6 := H6.out (by simp)
    subst e6
    obtain ⟨b, hb⟩ : ∃ b, pb4 obj = b := ⟨_, rfl⟩
    have hs4p : s9.pipe = updI s.pipe obj (some (s.pp obj)) := by rw [← HS9.out, ← HS4.out, if_pos (by simp)]
    have hpa := HW9.out.pipe_at (c := obj) (p := s.pp obj) (by rw [hs4p]; simp [updI])
    rw [hb] at hpa ⊢
    obtain ⟨p, hp⟩ : ∃ p, s.pp obj = p := ⟨_, rfl⟩
    have HLL := HLP.out obj
    rw [hp] at hpa HLL hs4p
    obtain ⟨l1, l2, l3⟩ := HLL
    obtain ⟨sa, sc, ga, gc, fa, fc, hPb, hPl, rS, rG, rF, oF, lF⟩ := hpa.open_
    obtain ⟨us, v1, v2, v3, v4⟩ := rG
    have p1 : w9.cell? ⟨b, 1, none⟩ = some (.slice ga p.got.length gc) := cell_at hPb 1
    have p2 : w9.cell? ⟨b, 2, none⟩ = some (.slice fa p.frm.length fc) := cell_at hPb 2
    have hbl : b < w9.heap.size := hpa.lt
    have nb1 : (Value.slice ga p.got.length gc).ownBlock ≠ some b := fun e => by have := v2 b e; rw [hPl] at this; cases this
    have HAP := hid (fun ty : TypeId => clk_append_one w9 ty _ (.slice ra rn rc) us rfl v1 (by omega))
    have HB := hid hb
    have HP := hid hp
    have HP9 := hid hs4p
    have HPB := hid (And.intro hPb hPl)
    have HRS := hid rS
    have HRF := hid rF
    have HOF := hid (And.intro oF lF)
    have HV := hid (And.intro v2 (And.intro v3 v4))
    have HNB := hid nb1
    have HEG := hid (show (Value.slice ga p.got.length gc).ownBlock ≠ some E from fun e => by have := v2 E e; rw [HE9.out.2.2] at this; cases this)
    obtain ⟨G, hG⟩ : ∃ G, p.got.length = G := ⟨_, rfl⟩
    have HG := hid hG
    rw [hG] at p1 HAP l2
    obtain ⟨F, hF⟩ : ∃ F, p.frm.length = F := ⟨_, rfl⟩
    have HF := hid hF
    rw [hF] at p2 l3
    clear hb hp hs4p hPb hPl rS rF oF lF v1 v2 v3 v4 hpa nb1 hG hF
    go_upto_region 37 with (at_builtin; refine wpList_app rfl (.tmp 215) (.tmp 217) 34 34 rfl _ (HAP.out _) ?_; rintro v10 w10 ⟨r10, k10, o10⟩; obtain ⟨za, zn, zc, rfl⟩ : ∃ a n c, v10 = .slice a n c := (by obtain ⟨a, c, e⟩ := r10.form; exact ⟨a, _, c, e⟩); have hz10 : zn = G + 1 := (by obtain ⟨a, c, e⟩ := r10.form; injection e with _ e2 _; rw [e2, List.length_append, HV.out.2.1, HG.out]; rfl); subst hz10; have hbz := (k10.block b ⟨hbl, by have := HNB.out; rwa [HG.out] at this⟩).trans HPB.out.1; have c1z := cell_at hbz 1; have f1z := frozen_at hbz 1; have H10 := hid (And.intro r10 (And.intro k10 o10)); clear r10 k10 o10 hbz)
    have hk10 := H10.out.2.1
    have hr10 := H10.out.1
    have ho10 := H10.out.2.2
    have hPB1 := HPB.out.1
    have hv1 := HV.out.1
    rw [HG.out] at hPB1 hv1
    obtain ⟨lz, hst, hpz⟩ := pipe_got hPB1 HPB.out.2 HRS.out hv1 HRF.out HOF.out.1 HV.out.2.1 HV.out.2.2 HOF.out.2 HC9.out hr10 hk10 ho10
    clear hPB1 hv1 hk10 hr10 ho10 c1z f1z H10 HAP p1
    obtain ⟨w11, hw11⟩ : ∃ w11, w10.setCell ⟨b, 1, none⟩ (.slice za (G + 1) zc) = w11 := ⟨_, rfl⟩
    rw [hw11] at hst hpz ⊢
    have hsw := HW9.out.setPipe (c := obj) (by rw [HP9.out]; simp [updI]) hst (by rw [HB.out]; exact hpz)
    have HSW := hid hsw
    have HCZ := hid (HC9.out.stay hst (by simp))
    have HKZ := hid (HK9.out.trans (hst.old_of (by simp)))
    obtain ⟨s11, hs11⟩ : ∃ s11 : St, { s9 with pipe := updI s9.pipe obj (some ⟨p.sent, p.got ++ [C], p.frm⟩) } = s11 := ⟨_, rfl⟩
    rw [hs11] at HSW
    have HS11 := hid hs11
    have HE11 := hid (And.intro ((hst.keep.block E ⟨HE9.out.2.1, by rw [HE9.out.2.2]; simp⟩).trans HE9.out.1) (Nat.lt_of_lt_of_le HE9.out.2.1 hst.keep.size))
    obtain ⟨sa1, sc1, ga1, gc1, fa1, fc1, hPb, _, _, _, rF1, _, lF1⟩ := hpz.open_
    have q1 : w11.cell? ⟨b, 1, none⟩ = some (.slice ga1 (G + 1) gc1) := by rw [cell_at hPb 1, ← HG.out]; simp
    have q2 : w11.cell? ⟨b, 2, none⟩ = some (.slice fa1 F fc1) := by rw [cell_at hPb 2, ← HF.out]; rfl
    have HRF1 := hid rF1
    have HLF1 := hid lF1
    have cb11 : w11.cell? ⟨E, 2, none⟩ = some (.int .i64 obj) := cell_at HE11.out.1 2
    have c0 := HSW.out.own.cells.1
    have HR11 := hid (HR0.out.keep HKZ.out.keep HOLD.out)
    obtain ⟨R, hR⟩ : ∃ R, roomOf rooms obj = R := ⟨_, rfl⟩
    have HRR := hid hR
    have HSTEP := hid (show s.step rooms ⟨gn, 6, obj, at_⟩ = if R = 0 ∧ G < F then { s11 with own := upd s11.own (p.frm.getD G 0) (join (s11.own (p.frm.getD G 0)) C) } else s11 from by
      rw [step_recv, HCC.out, HP.out, HRR.out, HG.out, HF.out, ← HS11.out, HP9.out, updI_updI, ← HS9.out, ← HS4.out, if_pos (show (6 : Int) = 5 ∨ (6 : Int) = 6 from .inr rfl)]
      split <;> rfl)
    clear hw11 hst hpz hsw hs11 hPb rF1 lF1 hR p2 hbl
    go_wp2_with fail
    refine (room_walk rooms rv W obj w11 _ HR11.out c0).mono ?_
    rw [HRR.out]
    rintro e w12 ⟨rfl, k12⟩
    have K12 := hid k12
    have q2b := (k12.cell (x := ⟨b, 2, none⟩) trivial).trans q2
    clear k12 q1 q2
    have hcase : R ≠ 0 ∨ (R = 0 ∧ ¬ G < F) ∨ (R = 0 ∧ G < F) := by omega
    rcases hcase with h1 | ⟨rfl, h2⟩ | ⟨rfl, h2⟩
    · have q0 : ((R : Int) == 0) = false := by simp; omega
      go_wp2_with fail
      go_ret
      have st12 := Stay.of_all (S := fun _ => True) lz K12.out
      obtain ⟨v1, pb1, lab1, e1, h1, h2, h3⟩ := HST.out _ _ _ _ _ ((HSW.out.stay st12 (fun _ _ => trivial)).more (Nat.le_succ _)) (HCZ.out.stay st12 trivial) (HKZ.out.trans (Stay.of_all lz K12.out)) (by rw [HSTEP.out, if_neg (by omega)])
      first | exact ⟨v1, pb1, lab1, e1, h1, h2, h3⟩ | exact ⟨v1, e1, pb1, lab1, h1, h2, h3⟩
    · have q3 : decide ((G : Int) < (F : Int)) = false := by simp; omega
      have q4 : decide (G < F) = false := by simp; omega
      clear h2
      go_wp2_with fail
      go_ret
      have st12 := Stay.of_all (S := fun _ => True) lz K12.out
      obtain ⟨v1, pb1, lab1, e1, h1, h2, h3⟩ := HST.out _ _ _ _ _ ((HSW.out.stay st12 (fun _ _ => trivial)).more (Nat.le_succ _)) (HCZ.out.stay st12 trivial) (HKZ.out.trans (Stay.of_all lz K12.out)) (by rw [HSTEP.out, if_neg (by have := of_decide_eq_false q4; omega)])
      first | exact ⟨v1, pb1, lab1, e1, h1, h2, h3⟩ | exact ⟨v1, e1, pb1, lab1, h1, h2, h3⟩
    · have hGF := h2
      have HGF := hid hGF
      have q3 : decide ((G : Int) < (F : Int)) = true := by simp; omega
      have q4 : decide (G < F) = true := by simp; omega
      have st12 := Stay.of_all (S := fun _ => True) lz K12.out
      have HW12 := hid (HSW.out.stay st12 (fun _ _ => trivial))
      have HCZ2 := hid (HCZ.out.stay st12 trivial)
      have hrf := HRF1.out.keep K12.out (fun _ _ => trivial)
      obtain ⟨fb, fcc, hfe, hf1, hf2, hfl12, hfc, _⟩ := hrf.blk (by rw [ints_length, HF.out]; omega)
      rw [ints_length] at hfe hf1
      simp only [HF.out] at hfe hf1
      injection hfe with e1 _ e3
      subst e1 e3
      obtain ⟨q, hq⟩ : ∃ q, p.frm.getD G 0 = q := ⟨_, rfl⟩
      have cf : w12.cell? ⟨fb, G, none⟩ = some (.int .i64 (q : Int)) := by rw [hfc G (by rw [ints_length, HF.out]; omega), ints_get _ _ _ (by rw [HF.out]; omega), hq]
      have hq8 : q < 8 := by rw [← hq, List.getD_eq_getElem?_getD, List.getElem?_eq_getElem (by rw [HF.out]; omega)]; exact HLF1.out _ (List.getElem_mem _)
      have hq8i : (q : Int) < 8 := by omega
      have HQQ := hid hq
      obtain ⟨qa, qn, qc, cq, hqc⟩ := HW12.out.own.slot q hq8
      have HQ := hid hqc
      have hbl12 : b < w12.heap.size := World.block_lt_of_cell? w12 _ q2b
      clear hrf hfc hq hqc st12 h2
      go_wp2_with fail
      refine wp_region_plan [true, true, true, true, true, true, true, true, true, true, true, true, true, true, true, true, true, true, true, true, true, false, true, true, true, false] (.free 0 (.free 1 (.free 2 (.free 3 (.free 4 (.free 5 (.free 6 (.free 7 (.free 8 (.free 9 (.free 10 (.free 11 (.free 12 (.free 13 (.free 14 (.free 15 (.free 16 (.free 17 (.free 18 (.free 19 (.free 20 (.free 22 (.free 23 (.one 21 (.free 24 (.last 25)))))))))))))))))))))))))) (fun wx => wx.cell? ⟨W, 1 + q, none⟩ = some (.slice qa qn qc) ∧ wx.cell? ⟨b, 2, none⟩ = some (.slice (some ⟨fb, 0, none⟩) F fc1) ∧ wx.cell? ⟨fb, G, none⟩ = some (.int .i64 (q : Int))) (by kernel_rfl) (by kernel_rfl) (⟨cq, q2b, cf⟩) ?_
      iterate 4 (refine plan_free rfl rfl (fun K hK => ?_); go_simp; refine hK _ ?_; clear hK K)
      refine plan_held (.slice (some ⟨fb, 0, none⟩) F fc1) rfl rfl (fun w0 h0 => by obtain ⟨h1, h2, h3⟩ := h0; go_simp) (fun K hK => ?_); refine hK _ ?_; clear hK K
      iterate 2 (refine plan_free rfl rfl (fun K hK => ?_); go_simp; refine hK _ ?_; clear hK K)
      refine plan_held (.int .i64 (q : Int)) rfl rfl (fun w0 h0 => by obtain ⟨h1, h2, h3⟩ := h0; go_simp) (fun K hK => ?_); refine hK _ ?_; clear hK K
      iterate 4 (refine plan_free rfl rfl (fun K hK => ?_); go_simp; refine hK _ ?_; clear hK K)
      refine plan_held (.slice (some ⟨fb, 0, none⟩) F fc1) rfl rfl (fun w0 h0 => by obtain ⟨h1, h2, h3⟩ := h0; go_simp) (fun K hK => ?_); refine hK _ ?_; clear hK K
      iterate 2 (refine plan_free rfl rfl (fun K hK => ?_); go_simp; refine hK _ ?_; clear hK K)
      refine plan_held (.int .i64 (q : Int)) rfl rfl (fun w0 h0 => by obtain ⟨h1, h2, h3⟩ := h0; go_simp) (fun K hK => ?_); refine hK _ ?_; clear hK K
      iterate 3 (refine plan_free rfl rfl (fun K hK => ?_); go_simp; refine hK _ ?_; clear hK K)
      refine plan_held (.slice qa qn qc) rfl rfl (fun w0 h0 => by obtain ⟨h1, h2, h3⟩ := h0; go_simp) (fun K hK => ?_); refine hK _ ?_; clear hK K
      iterate 3 (refine plan_free rfl rfl (fun K hK => ?_); go_simp; refine hK _ ?_; clear hK K)
      refine plan_one rfl rfl (fun K hK => ?_); go_simp
      refine (join_clk _ _ _ _ w12.drew lz _ _ (show Cells w12.drew _ _ _ from HQ.out) (show Cells w12.drew _ _ _ from HCZ2.out)).mono ?_
      rintro e w13 ⟨ja, jn, jc, lab13, rfl, r1, r2, r3⟩
      have st13 := (Stay.drew (fun _ => True) w12 lz).trans r2
      have J := hid (And.intro r1 st13)
      have W13 := hid (HW12.out.stay st13 (fun _ _ => trivial))
      have cq13 := (r3.cell (x := ⟨W, 1 + q, none⟩) HW12.out.own.lt).trans cq
      have fq13 := W13.out.own.unfrozen (1 + q)
      refine hK _ _ ⟨⟨cq13, (r3.cell (x := ⟨b, 2, none⟩) hbl12).trans q2b, (r3.cell (x := ⟨fb, G, none⟩) hfl12).trans cf⟩, ?_⟩
      clear hK K r1 r2 r3 st13
      refine plan_free rfl rfl (fun K hK => ?_); go_simp; refine hK _ ?_; clear hK K
      refine plan_last rfl rfl (fun K hK => ?_)
      go_simp
      refine hK _ _ ?_
      clear hK K cq13 fq13
      have H14 := hid (W13.out.setOwn q hq8 (.slice ja jn jc) _ J.out.1)
      have HC14 := hid ((HCZ2.out.stay J.out.2 trivial).stay H14.out.2 (by simp))
      have HK14 := hid (((HKZ.out.trans (Stay.of_all lz K12.out)).trans (J.out.2.old_of trivial)).trans (H14.out.2.old_of (by simp)))
      go_wp2_with fail
      go_ret
      obtain ⟨v1, pb1, lab1, e1, h1, h2, h3⟩ := HST.out _ _ _ _ _ (H14.out.1.more (Nat.le_succ _)) HC14.out HK14.out (by rw [HSTEP.out, if_pos (show True ∧ G < F from ⟨trivial, HGF.out⟩), HQQ.out])
      first | exact ⟨v1, pb1, lab1, e1, h1, h2, h3⟩ | exact ⟨v1, e1, pb1, lab1, h1, h2, h3⟩
  · skip
    have q4 : (kd == 4) = false := by simp [k4]
    have q5 : (kd == 5) = false := by simp [k5]
    have q6 : (kd == 6) = false := by simp [k6]
    have q7 : (kd == 7) = false := by simp; omega
    have q8 : (kd == 8) = false := by simp; omega
    have q9 : (kd == 9) = false := by simp; omega
    have q10 : (kd == 10) = false := by simp [k10]
    have HN := hid (step_other rooms s (gn : Int) obj at_ (k := kd) (by omega))
    have HNO := hid (show ¬ (kd = 5 ∨ kd = 6) by omega)
    clear k4 kA k5 k6 k10
    go_wp2_with fail
    go_ret
    obtain ⟨v1, pb1, lab1, e1, h1, h2, h3⟩ := HST.out _ _ _ _ _ (HW9.out.more (Nat.le_succ _)) HC9.out HK9.out (by rw [HN.out, HCC.out, ← HS9.out, ← HS4.out, if_neg HNO.out]; rfl)
    first | exact ⟨v1, pb1, lab1, e1, h1, h2, h3⟩ | exact ⟨v1, e1, pb1, lab1, h1, h2, h3⟩
end Go.Proofs.YtalihehmbiohlaaDoor
