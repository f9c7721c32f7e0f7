/-
  Step by step: event of the watcher: the second switch at a send.
-/
import Derived.Test.YtalihehmbiohlaaDoorOrdVa
namespace Go.Proofs.YtalihehmbiohlaaDoor
open Go.RowKit Go.Maps Go.Proofs.Mem Go.Proofs.Txt Go.Proofs.Ord Go.Proofs.Mp

set_option maxRecDepth 1000000 in
set_option maxHeartbeats 8000000 in
/-- the second switch at a send. -/
theorem event_send {s1 s2 s4 s7 s8 s9 s10 s11 s12 s13 s14 s15 s16 s17 s18 s19 s20 s21 s22 s23 s24 s25 s26 s27 s28 s29 s30 s31 s32 s33 s34 s35 s36 s37 s38 s39 s40 s41 s42 s43 s44 s45 s46 s47 s48 s49 s50 s51 s52 s53 s54 s55 s56 s57 s58 s59 s60 s61 s62 s63 s64 s65 s66 s67 s68 s69 s70 s71 s72 s73 s74 s75 s76 s77 s78 s79 s80 s81 s82 s83 s84 s85 s86 s87 s88 s89 s90 s91 s92 s93 s94 s95 s96 s97 s98 s99 s100 s101 s102 s103 s104 s105 s106 s107 s108 s109 s110 s111 s112 s113 s114 s115 s116 s117 s118 s119 s120 s121 s122 s123 s124 s125 s126 s127 s128 s129 s130 s131 s132 s133 s134 s135 s136 s137 s138 s139 s140 s141 s142 s143 s144 s145 s146 s147 s148 s149 s150 s151 s152 s153 s154 s155 s156 s157 s158 s159 s160 s161 s162 s163 s164 s165 s166 s167 s168 s169 s170 s171 s172 s173 s174 s175 s176 s177 s178 s179 s180 s181 s182 s183 s184 s185 s186 s187 s188 s189 s190 s191 s192 s193 s194 s195 s196 s197 s198 s199 s200 s201 s202 s203 s204 s205 s206 s207 s208 s209 s210 s211 s212 s213 s214 s215 s216 s217 s218 s219 s220 s221 s222 s223 s224 s225 s226 s227 s228 s229 s230 s231 s232 s233 s234 s235 s236 s237 s238 s239 s240 s241 s242 s243 s244 s245 s246 s247 s248 s249 s250 s251 s252 s253 s254 s255 s256 s257 s258 s259 s260 s261 s262 s263 s264 s265 s266 : Value} {rooms : List Int} {B W : Nat} {rv : Value} {M1 M2 M3 n : Nat} {w : World} {lab : Labs} {E : Nat} {s : St} {gn : Nat} {kd obj at_ : Int} {C : Nat → Nat} {ra : Option Addr} {rn rc : Nat} {u6 : Value} {w9 : World}
    (hgn : gn < 8) (h : EvTwo rooms B W rv M1 M2 M3 n w lab E ⟨gn, kd, obj, at_⟩ s C (.slice ra rn rc) u6 w9) (hn : n ≤ 1000) (hok : Ev.ok ⟨gn, kd, obj, at_⟩ = true) (hwf : (Lit.int .i64 obj).wf = true) (hlp : ∀ c, (s.pp c).sent.length ≤ 1000 ∧ (s.pp c).got.length ≤ 1000 ∧ (s.pp c).frm.length ≤ 1000)
    (hr : Cells w (fun b => b < B) rv (rooms.map (Value.int .i64))) (hold : ∀ b, b < B → b < w.heap.size ∧ lab b = .old) (k5 : kd = 5) :
    Code.wp Tryd.prog (evCode 8) (bodyPost Tryd.prog Tryd.f29 (fun e' w' => ∃ v pb' lab', e' = .returned v ∧ Watch B W rv M1 M2 M3 (n + 2) pb' w' lab' (s.step rooms ⟨gn, kd, obj, at_⟩) ∧ ClkAt w' lab' v (s.clock rooms ⟨gn, kd, obj, at_⟩) ∧ Stay (fun l => l = .old) w lab w' lab')) ⟨#[.pointer (some ⟨W, 0, none⟩), s1, s2, .pointer (some ⟨E, 0, none⟩), s4, .slice ra rn rc, u6, s7, s8, s9, s10, s11, s12, s13, s14, s15, s16, s17, s18, s19, s20, s21, s22, s23, s24, s25, s26, s27, s28, s29, s30, s31, s32, s33, s34, s35, s36, s37, s38, s39, s40, s41, s42, s43, s44, s45, s46, s47, s48, s49, s50, s51, s52, s53, s54, s55, s56, s57, s58, s59, s60, s61, s62, s63, s64, s65, s66, s67, s68, s69, s70, s71, s72, s73, s74, s75, s76, s77, s78, s79, s80, s81, s82, s83, s84, s85, s86, s87, s88, s89, s90, s91, s92, s93, s94, s95, s96, s97, s98, s99, s100, s101, s102, s103, s104, s105, s106, s107, s108, s109, s110, s111, s112, s113, s114, s115, s116, s117, s118, s119, s120, s121, s122, s123, s124, s125, s126, s127, s128, s129, s130, s131, s132, s133, s134, s135, s136, s137, s138, s139, s140, s141, s142, s143, s144, s145, s146, s147, s148, s149, s150, s151, s152, s153, s154, s155, s156, s157, s158, s159, s160, s161, s162, s163, s164, s165, s166, s167, s168, s169, s170, s171, s172, s173, s174, s175, s176, s177, s178, s179, s180, s181, s182, s183, s184, s185, s186, s187, s188, s189, s190, s191, s192, s193, s194, s195, s196, s197, s198, s199, s200, s201, s202, s203, s204, s205, s206, s207, s208, s209, s210, s211, s212, s213, s214, s215, s216, s217, s218, s219, s220, s221, s222, s223, s224, s225, s226, s227, s228, s229, s230, s231, s232, s233, s234, s235, s236, s237, s238, s239, s240, s241, s242, s243, s244, s245, s246, s247, s248, s249, s250, s251, s252, s253, s254, s255, s256, s257, s258, s259, s260, s261, s262, s263, s264, s265, s266], []⟩ w9 := by
  obtain ⟨pb4, lab8, s4, hs4, hcc, hw9, hc9, h6, he9, hk9⟩ := h
  have HS4 := hid (show (if kd = 5 ∨ kd = 6 then { s with pipe := updI s.pipe obj (some (s.pp obj)) } else s) = s4 from hs4)
  have HCC := hid hcc
  obtain ⟨s9, hs9⟩ : ∃ s9 : St, { s4 with own := upd s4.own gn C } = s9 := ⟨_, rfl⟩
  have HW9 := hid (show Watch B W rv M1 M2 M3 (n + 1) pb4 w9 lab8 s9 from hs9 ▸ hw9)
  have HS9 := hid hs9
  have HC9 := hid hc9
  have H6 := hid (show (kd = 5 ∨ kd = 6) → u6 = .pointer (some ⟨pb4 obj, 0, none⟩) from h6)
  have HE9 := hid he9
  have HK9 := hid hk9
  have HOK := hid hok
  have HKY := hid (key_ok hwf)
  have HWF := hid hwf
  have HLP := hid hlp
  have HR0 := hid hr
  have HOLD := hid hold
  clear hs4 hcc hs9 hw9 hc9 h6 he9 hk9 hok hwf hlp hr hold
  conv => arg 2; whnf
  have cg9 : w9.cell? ⟨E, 0, none⟩ = some (.int .i64 (gn : Int)) := cell_at HE9.out.1 0
  have ck9 : w9.cell? ⟨E, 1, none⟩ = some (.int .i64 kd) := cell_at HE9.out.1 1
  have cb9 : w9.cell? ⟨E, 2, none⟩ = some (.int .i64 obj) := cell_at HE9.out.1 2
  have HST := hid (show ∀ (pb' : Int → Nat) (lab' : Labs) (wz : World) (v : Value) (sz : St), Watch B W rv M1 M2 M3 (n + 2) pb' wz lab' sz → ClkAt wz lab' v C → Stay (fun l => l = .old) w lab wz lab' → s.step rooms ⟨gn, kd, obj, at_⟩ = sz → ∃ v_1 pb' lab', Ending.returned v = Ending.returned v_1 ∧ Watch B W rv M1 M2 M3 (n + 2) pb' wz lab' (s.step rooms ⟨gn, kd, obj, at_⟩) ∧ ClkAt wz lab' v_1 (s.clock rooms ⟨gn, kd, obj, at_⟩) ∧ Stay (fun l => l = .old) w lab wz lab' from fun pb' lab' wz v sz h1 h2 h3 h4 => ⟨v, pb', lab', rfl, by rw [h4]; exact h1, by rw [HCC.out]; exact h2, h3⟩)
  subst k5
  have e6 := H6.out (by simp)
  subst e6
  obtain ⟨b, hb⟩ : ∃ b, pb4 obj = b := ⟨_, rfl⟩
  have hs4p : s9.pipe = updI s.pipe obj (some (s.pp obj)) := by rw [← HS9.out, ← HS4.out, if_pos (by simp)]
  have hpa := HW9.out.pipe_at (c := obj) (p := s.pp obj) (by rw [hs4p]; simp [updI])
  rw [hb] at hpa ⊢
  obtain ⟨p, hp⟩ : ∃ p, s.pp obj = p := ⟨_, rfl⟩
  have HLL := HLP.out obj
  rw [hp] at hpa HLL hs4p
  obtain ⟨l1, l2, l3⟩ := HLL
  obtain ⟨sa, sc, ga, gc, fa, fc, hPb, hPl, rS, rG, rF, oF, lF⟩ := hpa.open_
  obtain ⟨vs, v1, v2, v3, v4⟩ := rS
  have p0 : w9.cell? ⟨b, 0, none⟩ = some (.slice sa p.sent.length sc) := cell_at hPb 0
  have p2 : w9.cell? ⟨b, 2, none⟩ = some (.slice fa p.frm.length fc) := cell_at hPb 2
  have hbl : b < w9.heap.size := hpa.lt
  have hne : ∀ k, (Value.slice sa p.sent.length sc).ownBlock = some k → (Value.slice fa p.frm.length fc).ownBlock ≠ some k := fun k h1 h2 => by have e1 := v2 k h1; rw [oF k h2] at e1; cases e1
  have HG0 := hid (Gr2.start (w0 := w9) v1 rF hne)
  have HB := hid hb
  have HP := hid hp
  have HP9 := hid hs4p
  have HPB := hid (And.intro hPb hPl)
  have HRG := hid rG
  have HRF := hid rF
  have HOF := hid (And.intro oF lF)
  have HV := hid (And.intro v2 (And.intro v3 v4))
  have nb0 : (Value.slice sa p.sent.length sc).ownBlock ≠ some b := fun e => by have := v2 b e; rw [hPl] at this; cases this
  have nb2 : (Value.slice fa p.frm.length fc).ownBlock ≠ some b := fun e => by have := oF b e; rw [hPl] at this; cases this
  have nE0 : (Value.slice sa p.sent.length sc).ownBlock ≠ some E := fun e => by have := v2 E e; rw [HE9.out.2.2] at this; cases this
  have nE2 : (Value.slice fa p.frm.length fc).ownBlock ≠ some E := fun e => by have := oF E e; rw [HE9.out.2.2] at this; cases this
  have HGC := hid (show ∀ (wx : World) (x y : Value) (vs1 fs1 : List Value), Gr2 w9 32 3 (.slice sa p.sent.length sc) (.slice fa p.frm.length fc) wx x y vs1 fs1 → wx.cell? ⟨E, 0, none⟩ = some (.int .i64 (gn : Int)) ∧ wx.cell? ⟨b, 2, none⟩ = some (.slice fa p.frm.length fc) from fun wx x y vs1 fs1 g => ⟨(g.keep.cell (x := ⟨E, 0, none⟩) ⟨HE9.out.2.1, nE0, nE2⟩).trans cg9, (g.keep.cell (x := ⟨b, 2, none⟩) ⟨hbl, nb0, nb2⟩).trans p2⟩)
  have HP0 := hid (show ∀ (wx : World) (x y : Value) (vs1 fs1 : List Value), Gr2 w9 32 3 (.slice sa p.sent.length sc) (.slice fa p.frm.length fc) wx x y vs1 fs1 → wx.cell? ⟨b, 0, none⟩ = some (.slice sa p.sent.length sc) from fun wx x y vs1 fs1 g => (g.keep.cell (x := ⟨b, 0, none⟩) ⟨hbl, nb0, nb2⟩).trans p0)
  have NB := hid (And.intro nb0 nb2)
  have hEb : E ≠ b := fun e => by have := HE9.out.2.2; rw [e, hPl] at this; cases this
  clear hb hp hs4p hPb hPl rG rF oF lF v1 v2 v3 v4 hpa hne nb0 nb2 nE0 nE2 p0
  go_wp2_with fail
  refine wp_region_plan [true, true, true, true, true, false, true, false, false, true, true, true, true, true, true, false, false, true, true, false, true, true, false] (.free 0 (.free 1 (.free 2 (.free 3 (.free 4 (.free 6 (.free 9 (.free 10 (.free 11 (.free 12 (.free 13 (.free 14 (.alt (.one 5 (.alt (.one 7 (.alt (.one 8 (.one 15 (.one 16 (.free 17 (.free 18 (.one 19 (.free 20 (.free 21 (.last 22))))))))) (.one 15 (.one 8 (.one 16 (.free 17 (.free 18 (.one 19 (.free 20 (.free 21 (.last 22))))))))))) (.one 15 (.one 7 (.one 8 (.one 16 (.free 17 (.free 18 (.one 19 (.free 20 (.free 21 (.last 22)))))))))))) (.alt (.one 7 (.alt (.one 5 (.alt (.one 8 (.one 15 (.one 16 (.free 17 (.free 18 (.one 19 (.free 20 (.free 21 (.last 22))))))))) (.one 15 (.one 8 (.one 16 (.free 17 (.free 18 (.one 19 (.free 20 (.free 21 (.last 22))))))))))) (.one 15 (.one 5 (.one 8 (.one 16 (.free 17 (.free 18 (.one 19 (.free 20 (.free 21 (.last 22)))))))))))) (.one 15 (.alt (.one 5 (.one 7 (.one 8 (.one 16 (.free 17 (.free 18 (.one 19 (.free 20 (.free 21 (.last 22)))))))))) (.one 7 (.one 5 (.one 8 (.one 16 (.free 17 (.free 18 (.one 19 (.free 20 (.free 21 (.last 22)))))))))))))))))))))))))) (fun wx => wx.cell? ⟨E, 0, none⟩ = some (.int .i64 (gn : Int)) ∧ wx.cell? ⟨b, 2, none⟩ = some (.slice fa p.frm.length fc)) (by kernel_rfl) (by kernel_rfl) (⟨cg9, p2⟩) ?_
  refine plan_free rfl rfl (fun K hK => ?_); go_simp; refine hK _ ?_; clear hK K
  refine plan_free rfl rfl (fun K hK => ?_); go_simp; refine hK _ ?_; clear hK K
  refine plan_free rfl rfl (fun K hK => ?_); go_simp; refine hK _ ?_; clear hK K
  refine plan_free rfl rfl (fun K hK => ?_); go_simp; refine hK _ ?_; clear hK K
  refine plan_free rfl rfl (fun K hK => ?_); go_simp; refine hK _ ?_; clear hK K
  refine plan_free rfl rfl (fun K hK => ?_); go_simp; refine hK _ ?_; clear hK K
  refine plan_free rfl rfl (fun K hK => ?_); go_simp; refine hK _ ?_; clear hK K
  refine plan_free rfl rfl (fun K hK => ?_); go_simp; refine hK _ ?_; clear hK K
  refine plan_free rfl rfl (fun K hK => ?_); go_simp; refine hK _ ?_; clear hK K
  refine plan_held (.slice fa p.frm.length fc) rfl rfl (fun w0 h0 => by obtain ⟨h1, h2⟩ := h0; go_simp) (fun K hK => ?_); refine hK _ ?_; clear hK K
  refine plan_free rfl rfl (fun K hK => ?_); go_simp; refine hK _ ?_; clear hK K
  refine plan_held (.int .i64 (gn : Int)) rfl rfl (fun w0 h0 => by obtain ⟨h1, h2⟩ := h0; go_simp) (fun K hK => ?_); refine hK _ ?_; clear hK K
  refine share (T := ?T2) (fun N2 => ?m2) ?n2
  case m2 =>
    refine share (T := ?T3) (fun N3 => ?m3) ?n3
    case m3 =>
      refine share (T := ?T1) (fun N1 => ?m1) ?n1
      case m1 =>
        refine ⟨?_, ?_⟩
        · refine plan_one rfl rfl (fun K hK => ?_)
          have p0x := HP0.out w9 _ _ _ _ HG0.out
          go_simp
          refine hK _ _ ⟨HGC.out _ _ _ _ _ (HG0.out.next (Keep.refl _ _).drew), ?_⟩
          clear hK K p0x
          try simp only [Act.put]
          refine ⟨?_, ?_⟩
          · refine plan_one rfl rfl (fun K hK => ?_); go_simp
            refine hK _ _ ⟨HGC.out _ _ _ _ _ ((HG0.out.next (Keep.refl _ _).drew).next ((Keep.refl _ _).alloc _ (fun _ h => h))), ?_⟩
            clear hK K
            try simp only [Act.put]
            exact N1
          · refine plan_one rfl rfl (fun K hK => ?_); go_simp
            refine hK _ _ ⟨HGC.out _ _ _ _ _ ((HG0.out.next (Keep.refl _ _).drew).next ((Keep.refl _ _).alloc _ (fun _ h => h))), ?_⟩
            clear hK K
            try simp only [Act.put]
            refine plan_one rfl rfl (fun K hK => ?_); go_simp
            refine hK _ _ ⟨HGC.out _ _ _ _ _ (((HG0.out.next (Keep.refl _ _).drew).next ((Keep.refl _ _).alloc _ (fun _ h => h))).next ((Keep.refl _ _).alloc _ (fun _ h => h))), ?_⟩
            clear hK K
            try simp only [Act.put]
            exact N3
        · refine ⟨?_, ?_⟩
          · refine plan_one rfl rfl (fun K hK => ?_); go_simp
            refine hK _ _ ⟨HGC.out _ _ _ _ _ ((HG0.out.next (Keep.refl _ _).drew).next ((Keep.refl _ _).alloc _ (fun _ h => h))), ?_⟩
            clear hK K
            try simp only [Act.put]
            refine ⟨?_, ?_⟩
            · refine plan_one rfl rfl (fun K hK => ?_)
              have p0x := HP0.out w9 _ _ _ _ HG0.out
              go_simp
              refine hK _ _ ⟨HGC.out _ _ _ _ _ ((HG0.out.next (Keep.refl _ _).drew).next ((Keep.refl _ _).alloc _ (fun _ h => h))), ?_⟩
              clear hK K p0x
              try simp only [Act.put]
              exact N1
            · refine plan_one rfl rfl (fun K hK => ?_); go_simp
              refine hK _ _ ⟨HGC.out _ _ _ _ _ (((HG0.out.next (Keep.refl _ _).drew).next ((Keep.refl _ _).alloc _ (fun _ h => h))).next ((Keep.refl _ _).alloc _ (fun _ h => h))), ?_⟩
              clear hK K
              try simp only [Act.put]
              refine plan_one rfl rfl (fun K hK => ?_)
              have p0x := HP0.out w9 _ _ _ _ HG0.out
              go_simp
              refine hK _ _ ⟨HGC.out _ _ _ _ _ (((HG0.out.next (Keep.refl _ _).drew).next ((Keep.refl _ _).alloc _ (fun _ h => h))).next ((Keep.refl _ _).alloc _ (fun _ h => h))), ?_⟩
              clear hK K p0x
              try simp only [Act.put]
              exact N2
          · refine plan_one rfl rfl (fun K hK => ?_); go_simp
            refine hK _ _ ⟨HGC.out _ _ _ _ _ ((HG0.out.next (Keep.refl _ _).drew).next ((Keep.refl _ _).alloc _ (fun _ h => h))), ?_⟩
            clear hK K
            try simp only [Act.put]
            refine ⟨?_, ?_⟩
            · refine plan_one rfl rfl (fun K hK => ?_)
              have p0x := HP0.out w9 _ _ _ _ HG0.out
              go_simp
              refine hK _ _ ⟨HGC.out _ _ _ _ _ ((HG0.out.next (Keep.refl _ _).drew).next ((Keep.refl _ _).alloc _ (fun _ h => h))), ?_⟩
              clear hK K p0x
              try simp only [Act.put]
              refine plan_one rfl rfl (fun K hK => ?_); go_simp
              refine hK _ _ ⟨HGC.out _ _ _ _ _ (((HG0.out.next (Keep.refl _ _).drew).next ((Keep.refl _ _).alloc _ (fun _ h => h))).next ((Keep.refl _ _).alloc _ (fun _ h => h))), ?_⟩
              clear hK K
              try simp only [Act.put]
              exact N3
            · refine plan_one rfl rfl (fun K hK => ?_); go_simp
              refine hK _ _ ⟨HGC.out _ _ _ _ _ (((HG0.out.next (Keep.refl _ _).drew).next ((Keep.refl _ _).alloc _ (fun _ h => h))).next ((Keep.refl _ _).alloc _ (fun _ h => h))), ?_⟩
              clear hK K
              try simp only [Act.put]
              refine plan_one rfl rfl (fun K hK => ?_)
              have p0x := HP0.out w9 _ _ _ _ HG0.out
              go_simp
              refine hK _ _ ⟨HGC.out _ _ _ _ _ (((HG0.out.next (Keep.refl _ _).drew).next ((Keep.refl _ _).alloc _ (fun _ h => h))).next ((Keep.refl _ _).alloc _ (fun _ h => h))), ?_⟩
              clear hK K p0x
              try simp only [Act.put]
              exact N3
      case n1 =>
        refine ⟨?_, ?_⟩
        · refine plan_world (fun wx => Gr2 w9 32 3 (.slice sa p.sent.length sc) (.slice fa p.frm.length fc) wx (.slice sa p.sent.length sc) (.slice fa p.frm.length fc) vs (ints .i64 p.frm) ∧ Cells wx (fun b => w9.heap.size ≤ b ∧ b < wx.heap.size) (.slice (some ⟨w9.heap.size, 0, none⟩) 1 1) [.slice ra rn rc]) ⟨HG0.out.next ((Keep.refl _ _).drew.alloc _ (fun _ h => h)), (one_made w9.drew 32 (.slice ra rn rc)).lt.mono (fun _ h => ⟨h.2, h.1⟩)⟩ ?_
          rintro wN ⟨gN, c7N⟩
          have GN := hid gN
          have C7N := hid c7N
          clear gN c7N
          refine plan_app rfl rfl (.tmp 193) (.tmp 195) 34 34 rfl _ (clk_append_at wN _ (.slice sa p.sent.length sc) (.slice ra rn rc) (.slice (some ⟨w9.heap.size, 0, none⟩) 1 1) _ rfl (GN.out).r1 (C7N.out) (by rw [HV.out.2.1]; omega)) ?_
          rintro v1_1 wa1_1 ⟨r1_1, k1_1, o1_1⟩
          have GG1_1 := hid ((GN.out).app r1_1 k1_1 o1_1)
          clear r1_1 k1_1 o1_1
          refine ⟨HGC.out _ _ _ _ _ GG1_1.out, ?_⟩
          refine plan_one rfl rfl (fun K hK => ?_); go_simp
          refine hK _ _ ⟨HGC.out _ _ _ _ _ ((GG1_1.out).next ((Keep.refl _ _).alloc _ (fun _ h => h))), ?_⟩
          clear hK K
          try simp only [Act.put]
          refine plan_world (fun wx => Gr2 w9 32 3 (.slice sa p.sent.length sc) (.slice fa p.frm.length fc) wx v1_1 (.slice fa p.frm.length fc) (vs ++ [.slice ra rn rc]) (ints .i64 p.frm) ∧ Cells wx (fun b => wa1_1.heap.size ≤ b ∧ b < wx.heap.size) (.slice (some ⟨wa1_1.heap.size, 0, none⟩) 1 1) [(.int .i64 (gn : Int))] ∧ Keep (· < wa1_1.heap.size) wa1_1 wx) ⟨(GG1_1.out).next ((Keep.refl _ _).alloc _ (fun _ h => h)), (one_made _ 3 (.int .i64 (gn : Int))).lt.mono (fun _ h => ⟨h.2, h.1⟩), (Keep.refl _ _).alloc _ (fun _ h => h)⟩ ?_
          rintro wa2_2 ⟨g2_2, c2_2, k2_2⟩
          have GG2_2 := hid g2_2
          have CC2_2 := hid c2_2
          have KK2_2 := hid k2_2
          clear g2_2 c2_2 k2_2
          refine plan_app rfl rfl (.tmp 200) (.tmp 203) 32 32 rfl _ (int_append_at wa2_2 _ (.slice fa p.frm.length fc) (.slice (some ⟨wa1_1.heap.size, 0, none⟩) 1 1) (gn : Int) _ (GG2_2.out).r2 (CC2_2.out) (by rw [ints_length]; omega)) ?_
          rintro v3_3 wa3_3 ⟨r3_3, k3_3, o3_3⟩
          have GG3_3 := hid ((GG2_2.out).swap.app r3_3 k3_3 o3_3).swap
          clear r3_3 k3_3 o3_3
          refine ⟨HGC.out _ _ _ _ _ GG3_3.out, ?_⟩
          obtain ⟨wz, hwz⟩ : ∃ wz, wz = wa3_3 := ⟨_, rfl⟩
          obtain ⟨za, zn, zc, rfl⟩ : ∃ a n c, v1_1 = .slice a n c := by obtain ⟨a, c, e⟩ := (GG3_3.out).r1.form; exact ⟨a, _, c, e⟩
          obtain ⟨ya, yn, yc, rfl⟩ : ∃ a n c, v3_3 = .slice a n c := by obtain ⟨a, c, e⟩ := (GG3_3.out).r2.form; exact ⟨a, _, c, e⟩
          have GZZ := GG3_3.out
          rw [← hwz] at GZZ
          rw [← hwz]
          have GF := hid GZZ
          clear GZZ hwz
          have hbz := (GF.out.keep.block b ⟨hbl, NB.out.1, NB.out.2⟩).trans HPB.out.1
          have c0z := cell_at hbz 0
          have f0z := frozen_at hbz 0
          have c2z := HGC.out _ _ _ _ _ GF.out
          have hbz2 := set_at (cs := [.slice sa p.sent.length sc, .slice ga p.got.length gc, .slice fa p.frm.length fc]) hbz 0 (.slice za zn zc)
          have d2z := cell_at hbz2 2
          have f2z := frozen_at hbz2 2
          have e0z : (wz.setCell ⟨b, 0, none⟩ (.slice za zn zc)).cell? ⟨E, 0, none⟩ = some (.int .i64 (gn : Int)) := (((Keep.refl (fun k => k ≠ b) wz).setCell _ (by simp)).cell (x := ⟨E, 0, none⟩) hEb).trans c2z.1
          clear hbz hbz2
          refine plan_free rfl rfl (fun K hK => ?_); go_simp; refine hK _ ?_; clear hK K
          refine plan_free rfl rfl (fun K hK => ?_); go_simp; refine hK _ ?_; clear hK K
          refine plan_one rfl rfl (fun K hK => ?_); go_simp
          refine hK _ _ ⟨⟨e0z, d2z⟩, ?_⟩
          clear hK K
          refine plan_free rfl rfl (fun K hK => ?_); go_simp; refine hK _ ?_; clear hK K
          refine plan_free rfl rfl (fun K hK => ?_); go_simp; refine hK _ ?_; clear hK K
          refine plan_last rfl rfl (fun K hK => ?_); go_simp
          refine hK _ _ ?_
          clear hK K
          obtain ⟨lz, hst, hpz⟩ := pipe_sent HPB.out.1 HPB.out.2 HRG.out HV.out.1 HOF.out.1 (fun k hk => HRF.out.lt hk) HV.out.2.1 HV.out.2.2 HOF.out.2 hgn HC9.out GF.out
          have hsw := HW9.out.setPipe (c := obj) (by rw [HP9.out]; simp [updI]) hst (by rw [HB.out]; exact hpz)
          have HSW := hid hsw
          have HCZ := hid (HC9.out.stay hst (by simp))
          have HKZ := hid (HK9.out.trans (hst.old_of (by simp)))
          clear hst hpz hsw c0z f0z c2z d2z f2z e0z
          go_wp2_with fail
          go_ret
          obtain ⟨v1, pb1, lab1, e1, h1, h2, h3⟩ := HST.out _ _ _ _ _ (HSW.out.more (Nat.le_succ _)) HCZ.out HKZ.out (by rw [step_send, HCC.out, HP.out, HP9.out, updI_updI, ← HS9.out, ← HS4.out, if_pos (by simp)]; rfl)
          first | exact ⟨v1, pb1, lab1, e1, h1, h2, h3⟩ | exact ⟨v1, e1, pb1, lab1, h1, h2, h3⟩
        · refine plan_one rfl rfl (fun K hK => ?_); go_simp
          refine hK _ _ ⟨HGC.out _ _ _ _ _ (((HG0.out.next (Keep.refl _ _).drew).next ((Keep.refl _ _).alloc _ (fun _ h => h))).next ((Keep.refl _ _).alloc _ (fun _ h => h))), ?_⟩
          clear hK K
          try simp only [Act.put]
          exact N2
    case n3 =>
      refine plan_world (fun wx => Gr2 w9 32 3 (.slice sa p.sent.length sc) (.slice fa p.frm.length fc) wx (.slice sa p.sent.length sc) (.slice fa p.frm.length fc) vs (ints .i64 p.frm) ∧ Cells wx (fun b => w9.heap.size ≤ b ∧ b < wx.heap.size) (.slice (some ⟨w9.heap.size + 1, 0, none⟩) 1 1) [.slice ra rn rc] ∧ Cells wx (fun b => w9.heap.size ≤ b ∧ b < wx.heap.size) (.slice (some ⟨w9.heap.size, 0, none⟩) 1 1) [.int .i64 (gn : Int)]) ⟨(HG0.out.next ((Keep.refl _ _).drew.alloc _ (fun _ h => h))).next ((Keep.refl _ _).alloc _ (fun _ h => h)), (by have := (one_made (w9.drew.alloc (.cells #[.int .i64 (gn : Int)] 3)) 32 (.slice ra rn rc)).lt; rw [show (w9.drew.alloc (.cells #[.int .i64 (gn : Int)] 3)).heap.size = w9.heap.size + 1 by simp] at this; exact this.mono (fun b h => ⟨by have := h.2; omega, h.1⟩)), (((one_made w9.drew 3 (.int .i64 (gn : Int))).lt.keep (q := fun b => b < _) ((Keep.refl _ _).alloc _ (fun _ h => h)) (fun b h => h.1)).lt.mono (fun b h => ⟨h.2.2, h.1⟩))⟩ ?_
      rintro wN ⟨gN, c7N, c15N⟩
      have GN := hid gN
      have C7N := hid c7N
      have C15N := hid c15N
      clear gN c7N c15N
      refine plan_app rfl rfl (.tmp 193) (.tmp 195) 34 34 rfl _ (clk_append_at wN _ (.slice sa p.sent.length sc) (.slice ra rn rc) (.slice (some ⟨w9.heap.size + 1, 0, none⟩) 1 1) _ rfl (GN.out).r1 (C7N.out) (by rw [HV.out.2.1]; omega)) ?_
      rintro v8_1 wa8_1 ⟨r8_1, k8_1, o8_1⟩
      have GG8_1 := hid ((GN.out).app r8_1 k8_1 o8_1)
      have CX8_1 := hid ((C15N.out).keep k8_1 (fun b hb => ⟨hb.2, fun e => by have h2 := HG0.out.r1.lt e; have := hb.1; omega⟩))
      clear r8_1 k8_1 o8_1
      refine ⟨HGC.out _ _ _ _ _ GG8_1.out, ?_⟩
      refine plan_app rfl rfl (.tmp 200) (.tmp 203) 32 32 rfl _ (int_append_at wa8_1 _ (.slice fa p.frm.length fc) (.slice (some ⟨w9.heap.size, 0, none⟩) 1 1) (gn : Int) _ (GG8_1.out).r2 (CX8_1.out) (by rw [ints_length]; omega)) ?_
      rintro v9_2 wa9_2 ⟨r9_2, k9_2, o9_2⟩
      have GG9_2 := hid ((GG8_1.out).swap.app r9_2 k9_2 o9_2).swap
      clear r9_2 k9_2 o9_2
      refine ⟨HGC.out _ _ _ _ _ GG9_2.out, ?_⟩
      obtain ⟨wz, hwz⟩ : ∃ wz, wz = wa9_2 := ⟨_, rfl⟩
      obtain ⟨za, zn, zc, rfl⟩ : ∃ a n c, v8_1 = .slice a n c := by obtain ⟨a, c, e⟩ := (GG9_2.out).r1.form; exact ⟨a, _, c, e⟩
      obtain ⟨ya, yn, yc, rfl⟩ : ∃ a n c, v9_2 = .slice a n c := by obtain ⟨a, c, e⟩ := (GG9_2.out).r2.form; exact ⟨a, _, c, e⟩
      have GZZ := GG9_2.out
      rw [← hwz] at GZZ
      rw [← hwz]
      have GF := hid GZZ
      clear GZZ hwz
      have hbz := (GF.out.keep.block b ⟨hbl, NB.out.1, NB.out.2⟩).trans HPB.out.1
      have c0z := cell_at hbz 0
      have f0z := frozen_at hbz 0
      have c2z := HGC.out _ _ _ _ _ GF.out
      have hbz2 := set_at (cs := [.slice sa p.sent.length sc, .slice ga p.got.length gc, .slice fa p.frm.length fc]) hbz 0 (.slice za zn zc)
      have d2z := cell_at hbz2 2
      have f2z := frozen_at hbz2 2
      have e0z : (wz.setCell ⟨b, 0, none⟩ (.slice za zn zc)).cell? ⟨E, 0, none⟩ = some (.int .i64 (gn : Int)) := (((Keep.refl (fun k => k ≠ b) wz).setCell _ (by simp)).cell (x := ⟨E, 0, none⟩) hEb).trans c2z.1
      clear hbz hbz2
      refine plan_free rfl rfl (fun K hK => ?_); go_simp; refine hK _ ?_; clear hK K
      refine plan_free rfl rfl (fun K hK => ?_); go_simp; refine hK _ ?_; clear hK K
      refine plan_one rfl rfl (fun K hK => ?_); go_simp
      refine hK _ _ ⟨⟨e0z, d2z⟩, ?_⟩
      clear hK K
      refine plan_free rfl rfl (fun K hK => ?_); go_simp; refine hK _ ?_; clear hK K
      refine plan_free rfl rfl (fun K hK => ?_); go_simp; refine hK _ ?_; clear hK K
      refine plan_last rfl rfl (fun K hK => ?_); go_simp
      refine hK _ _ ?_
      clear hK K
      obtain ⟨lz, hst, hpz⟩ := pipe_sent HPB.out.1 HPB.out.2 HRG.out HV.out.1 HOF.out.1 (fun k hk => HRF.out.lt hk) HV.out.2.1 HV.out.2.2 HOF.out.2 hgn HC9.out GF.out
      have hsw := HW9.out.setPipe (c := obj) (by rw [HP9.out]; simp [updI]) hst (by rw [HB.out]; exact hpz)
      have HSW := hid hsw
      have HCZ := hid (HC9.out.stay hst (by simp))
      have HKZ := hid (HK9.out.trans (hst.old_of (by simp)))
      clear hst hpz hsw c0z f0z c2z d2z f2z e0z
      go_wp2_with fail
      go_ret
      obtain ⟨v1, pb1, lab1, e1, h1, h2, h3⟩ := HST.out _ _ _ _ _ (HSW.out.more (Nat.le_succ _)) HCZ.out HKZ.out (by rw [step_send, HCC.out, HP.out, HP9.out, updI_updI, ← HS9.out, ← HS4.out, if_pos (by simp)]; rfl)
      first | exact ⟨v1, pb1, lab1, e1, h1, h2, h3⟩ | exact ⟨v1, e1, pb1, lab1, h1, h2, h3⟩
  case n2 =>
    refine plan_world (fun wx => Gr2 w9 32 3 (.slice sa p.sent.length sc) (.slice fa p.frm.length fc) wx (.slice sa p.sent.length sc) (.slice fa p.frm.length fc) vs (ints .i64 p.frm) ∧ Cells wx (fun b => w9.heap.size ≤ b ∧ b < wx.heap.size) (.slice (some ⟨w9.heap.size, 0, none⟩) 1 1) [.slice ra rn rc] ∧ Cells wx (fun b => w9.heap.size ≤ b ∧ b < wx.heap.size) (.slice (some ⟨w9.heap.size + 1, 0, none⟩) 1 1) [.int .i64 (gn : Int)]) ⟨(HG0.out.next ((Keep.refl _ _).drew.alloc _ (fun _ h => h))).next ((Keep.refl _ _).alloc _ (fun _ h => h)), (((one_made w9.drew 32 (.slice ra rn rc)).lt.keep (q := fun b => b < _) ((Keep.refl _ _).alloc _ (fun _ h => h)) (fun b h => h.1)).lt.mono (fun b h => ⟨h.2.2, h.1⟩)), (by have := (one_made (w9.drew.alloc (.cells #[.slice ra rn rc] 32)) 3 (.int .i64 (gn : Int))).lt; rw [show (w9.drew.alloc (.cells #[.slice ra rn rc] 32)).heap.size = w9.heap.size + 1 by simp] at this; exact this.mono (fun b h => ⟨by have := h.2; omega, h.1⟩))⟩ ?_
    rintro wN ⟨gN, c7N, c15N⟩
    have GN := hid gN
    have C7N := hid c7N
    have C15N := hid c15N
    clear gN c7N c15N
    refine plan_app rfl rfl (.tmp 193) (.tmp 195) 34 34 rfl _ (clk_append_at wN _ (.slice sa p.sent.length sc) (.slice ra rn rc) (.slice (some ⟨w9.heap.size, 0, none⟩) 1 1) _ rfl (GN.out).r1 (C7N.out) (by rw [HV.out.2.1]; omega)) ?_
    rintro v5_1 wa5_1 ⟨r5_1, k5_1, o5_1⟩
    have GG5_1 := hid ((GN.out).app r5_1 k5_1 o5_1)
    have CX5_1 := hid ((C15N.out).keep k5_1 (fun b hb => ⟨hb.2, fun e => by have h2 := HG0.out.r1.lt e; have := hb.1; omega⟩))
    clear r5_1 k5_1 o5_1
    refine ⟨HGC.out _ _ _ _ _ GG5_1.out, ?_⟩
    refine plan_app rfl rfl (.tmp 200) (.tmp 203) 32 32 rfl _ (int_append_at wa5_1 _ (.slice fa p.frm.length fc) (.slice (some ⟨w9.heap.size + 1, 0, none⟩) 1 1) (gn : Int) _ (GG5_1.out).r2 (CX5_1.out) (by rw [ints_length]; omega)) ?_
    rintro v6_2 wa6_2 ⟨r6_2, k6_2, o6_2⟩
    have GG6_2 := hid ((GG5_1.out).swap.app r6_2 k6_2 o6_2).swap
    clear r6_2 k6_2 o6_2
    refine ⟨HGC.out _ _ _ _ _ GG6_2.out, ?_⟩
    obtain ⟨wz, hwz⟩ : ∃ wz, wz = wa6_2 := ⟨_, rfl⟩
    obtain ⟨za, zn, zc, rfl⟩ : ∃ a n c, v5_1 = .slice a n c := by obtain ⟨a, c, e⟩ := (GG6_2.out).r1.form; exact ⟨a, _, c, e⟩
    obtain ⟨ya, yn, yc, rfl⟩ : ∃ a n c, v6_2 = .slice a n c := by obtain ⟨a, c, e⟩ := (GG6_2.out).r2.form; exact ⟨a, _, c, e⟩
    have GZZ := GG6_2.out
    rw [← hwz] at GZZ
    rw [← hwz]
    have GF := hid GZZ
    clear GZZ hwz
    have hbz := (GF.out.keep.block b ⟨hbl, NB.out.1, NB.out.2⟩).trans HPB.out.1
    have c0z := cell_at hbz 0
    have f0z := frozen_at hbz 0
    have c2z := HGC.out _ _ _ _ _ GF.out
    have hbz2 := set_at (cs := [.slice sa p.sent.length sc, .slice ga p.got.length gc, .slice fa p.frm.length fc]) hbz 0 (.slice za zn zc)
    have d2z := cell_at hbz2 2
    have f2z := frozen_at hbz2 2
    have e0z : (wz.setCell ⟨b, 0, none⟩ (.slice za zn zc)).cell? ⟨E, 0, none⟩ = some (.int .i64 (gn : Int)) := (((Keep.refl (fun k => k ≠ b) wz).setCell _ (by simp)).cell (x := ⟨E, 0, none⟩) hEb).trans c2z.1
    clear hbz hbz2
    refine plan_free rfl rfl (fun K hK => ?_); go_simp; refine hK _ ?_; clear hK K
    refine plan_free rfl rfl (fun K hK => ?_); go_simp; refine hK _ ?_; clear hK K
    refine plan_one rfl rfl (fun K hK => ?_); go_simp
    refine hK _ _ ⟨⟨e0z, d2z⟩, ?_⟩
    clear hK K
    refine plan_free rfl rfl (fun K hK => ?_); go_simp; refine hK _ ?_; clear hK K
    refine plan_free rfl rfl (fun K hK => ?_); go_simp; refine hK _ ?_; clear hK K
    refine plan_last rfl rfl (fun K hK => ?_); go_simp
    refine hK _ _ ?_
    clear hK K
    obtain ⟨lz, hst, hpz⟩ := pipe_sent HPB.out.1 HPB.out.2 HRG.out HV.out.1 HOF.out.1 (fun k hk => HRF.out.lt hk) HV.out.2.1 HV.out.2.2 HOF.out.2 hgn HC9.out GF.out
    have hsw := HW9.out.setPipe (c := obj) (by rw [HP9.out]; simp [updI]) hst (by rw [HB.out]; exact hpz)
    have HSW := hid hsw
    have HCZ := hid (HC9.out.stay hst (by simp))
    have HKZ := hid (HK9.out.trans (hst.old_of (by simp)))
    clear hst hpz hsw c0z f0z c2z d2z f2z e0z
    go_wp2_with fail
    go_ret
    obtain ⟨v1, pb1, lab1, e1, h1, h2, h3⟩ := HST.out _ _ _ _ _ (HSW.out.more (Nat.le_succ _)) HCZ.out HKZ.out (by rw [step_send, HCC.out, HP.out, HP9.out, updI_updI, ← HS9.out, ← HS4.out, if_pos (by simp)]; rfl)
    first | exact ⟨v1, pb1, lab1, e1, h1, h2, h3⟩ | exact ⟨v1, e1, pb1, lab1, h1, h2, h3⟩
end Go.Proofs.YtalihehmbiohlaaDoor
