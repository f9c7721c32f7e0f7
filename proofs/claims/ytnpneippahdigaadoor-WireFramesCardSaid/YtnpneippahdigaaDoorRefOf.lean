/-
  Step by step: the reference's 'Of': the digest of bytes, the whole message at once.
-/
import Derived.Test.YtnpneippahdigaaDoorRefOfR
import Derived.Test.YtnpneippahdigaaDoorTail
import Derived.OwnWalk
import Derived.Deep.LoopGhost
import Derived.BigQuiet
import Derived.Deep.QuietTactic
import Derived.Deep.DeepCutAuto
namespace Go.Proofs.YtnpneippahdigaaDoor
open Go.RowKit Go.Proofs.Mem

theorem u8_get' {a : List Nat} (h : ∀ x ∈ a, x < 256) (i : Nat) : a.getD i 0 < 256 := by
  rw [List.getD_eq_getElem?_getD]
  cases hi : a[i]? with
  | none => decide
  | some x => exact h x (List.mem_of_getElem? hi)

set_option maxRecDepth 100000 in
set_option maxHeartbeats 4000000 in
theorem refof_walk (hb : Nat) (u : Value) (bs : List Nat) (w : World) (p : Nat → Prop) (hl : bs.length ≤ 1099511627776) (hx : ∀ x ∈ bs, x < 256) (hW : WordsAt w hb Sha.St.new.ws Sha.turns) (hu : Cells w p u (ints .u8 bs)) :
    Calls Tryd.prog 80 #[.pointer (some ⟨hb, 0, none⟩), u] w fun e w' => ∃ v, e = .returned v ∧ Keep (· < w.heap.size) w w' ∧ Cells w' (fun k => w.heap.size ≤ k) v (ints .u8 (Sha.of bs)) := by
  have hbw := hW.lt
  have HW := hid hW
  have Hu := hid hu
  have HX := hid hx
  clear hW hu hx
  go_enter Tryd.func80, Tryd.ntmps80
  go_wp2_with fail
  refine (refpadded_walk u bs w p hl Hu.out).mono ?_
  rintro e w1 ⟨vm, rfl, k1, hm⟩
  have hm' := hm.lt
  have k1z := k1.size
  have HK1 := hid k1
  obtain ⟨am, nm, cm, rfl, en, mm, qm, _⟩ := hm
  rw [ints_length] at en
  have HM := hid hm'
  clear hm' k1
  obtain ⟨P, hP⟩ : ∃ P, Ref3.padB bs = P := ⟨_, rfl⟩
  obtain ⟨n, hn⟩ : ∃ n, (bs.length + 72) / 64 = n := ⟨_, rfl⟩
  have hPl : P.length = 64 * n := by rw [← hP, Ref3.padB_length, hn]
  rw [hP] at HM en
  subst en
  have hnl : n ≤ 17179869200 := by omega
  have qm' : cm ≤ 9223372036854775807 := by simpa [maxLen] using qm
  rw [hPl] at mm HM ⊢
  have HP := hid (And.intro hP hn)
  have HPl := hid hPl
  clear hP hn hPl qm
  obtain ⟨sv, tv, hheap, hs, ht, hd1, hd2⟩ := HW.out.keep HK1.out (fun j _ h => h)
  have st8 : (ints .u32 Sha.St.new.ws).length = 8 := by decide
  have st64 : (ints .u32 Sha.turns).length = 64 := by decide
  obtain ⟨sg, sc, rfl, s1, s2, s3, s4, _⟩ := hs.blk (by rw [st8]; decide)
  obtain ⟨tg, tc, rfl, t1, t2, t3, t4, _⟩ := ht.blk (by rw [st64]; decide)
  rw [st8] at hheap hs s1 s4
  rw [st64] at hheap ht t1 t4
  have cs0 : w1.cell? ⟨hb, 0, none⟩ = some (.slice (some ⟨sg, 0, none⟩) 8 sc) := by rw [cell_at hheap]; rfl
  have ct0 : w1.cell? ⟨hb, 1, none⟩ = some (.slice (some ⟨tg, 0, none⟩) 64 tc) := by rw [cell_at hheap]; rfl
  obtain ⟨i0, hi0, hz0, hs0, hb0⟩ := info_parts (show (Tryd.prog.info? 142).map (fun i => (i.zero, i.size, i.bytes)) = some (some (.int .u32 0), 1, 4) by kernel_rfl)
  have hsc := hs.cells
  have HA := hid (append_first (P := Tryd.prog) 138 142 i0 (.int .u32 0) 4 Tryd.underlying138 hi0 hz0 hs0 hb0 rfl w1 138 _ (ints .u32 Sha.St.new.ws) hsc (ints_one _ _) (by rw [st8]; decide))
  have tz : hb < w1.heap.size ∧ tg < w1.heap.size := ⟨by omega, t3⟩
  have HT := hid (And.intro tz (And.intro ct0 t4))
  clear hs ht hd1 hd2 hheap s1 s2 s3 s4 t1 t2 t3 t4 hsc tz ct0
  have cs0' : (w1.alloc (.cells #[] 142)).cell? ⟨hb, 0, none⟩ = some (.slice (some ⟨sg, 0, none⟩) 8 sc) := (((Keep.refl (· < w1.heap.size) w1).alloc _ (fun _ h => h)).cell (x := ⟨hb, 0, none⟩) HT.out.1.1).trans cs0
  go_wp2_with (at_builtin; refine wpList_app rfl (.tmp 22) (.tmp 26) 138 138 rfl _ HA.out ?_; rintro v2 w2 ⟨hown, hg, hz⟩)
  rw [st8] at hown
  have hz2 := hz
  obtain ⟨B1, hB1⟩ : ∃ B, w1.heap.size = B := ⟨_, rfl⟩
  rw [hB1] at hown hg hz hz2 HT HM k1z ⊢
  have hr2 : Row w2 142 v2 (ints .u32 Sha.St.new.ws) ∧ ∀ k, v2.ownBlock = some k → B1 ≤ k := by
    refine ⟨⟨rfl, ?_⟩, fun k hk => (hown.lt k hk).1⟩
    rcases hown.2 with h | ⟨g, cap, cur, e, h1, h2⟩
    · exact .inl h
    · exact .inr ⟨g, cap, cur, e, Nat.zero_le _, h2⟩
  have HG := hid hg
  have HR2 := hid hr2
  have HB1 := hid hB1
  clear hown hg hr2 cs0 cs0' HA hB1
  obtain ⟨g, gc, rfl, hg1, hg2, hg3, _, _⟩ := HR2.out.1.blk (by rw [st8]; decide)
  rw [st8] at HR2 hg1 ⊢
  have hgB := HR2.out.2 g rfl
  go_loopg [7] n (fun k s7 wr => ∃ j : Nat, ∃ ws : List Nat, k + j = n ∧ s7 = .int .i64 ((64 * j : Nat) : Int) ∧ Row wr 142 (.slice (some ⟨g, 0, none⟩) 8 gc) (ints .u32 ws) ∧ ws.length = 8 ∧ Hid (∀ i, ws.getD i 0 < 4294967296) ∧ Hid (Ref3.blocks k ws (P.drop (64 * j)) = Ref3.blocks n Sha.St.new.ws P) ∧ Hid (Keep (· < B1) w1 wr) ∧ B1 ≤ wr.heap.size)
  case atStart => exact ⟨0, Sha.St.new.ws, rfl, rfl, HR2.out.1, rfl, new_good.2.2.1, rfl, HG.out, hz⟩
  case round =>
    obtain ⟨j, ws, hkj, rfl, hrow, hwl, HWl, HBk, HKp, hzr⟩ := hrel
    have hw8 : (ints .u32 ws).length = 8 := by rw [ints_length, hwl]
    obtain ⟨g', gc', e, _, _, hs3, hs4, hs5⟩ := hrow.blk (by rw [hw8]; decide)
    injection e with e1 e2 e3
    injection e1 with e1
    injection e1 with e1
    subst e1
    clear e2 e3
    rw [hw8] at hs4
    have HRow := hid hrow
    have HS := hid (And.intro hs4 hs5)
    clear hrow hs4 hs5
    by_cases hj : j < n
    · have t1 : decide (((64 * j : Nat) : Int) < ((64 * n : Nat) : Int)) = true := by simp; omega
      obtain ⟨gk', rfl⟩ : ∃ k, gk = k + 1 := ⟨gk - 1, by omega⟩
      obtain ⟨c, hc⟩ : ∃ c, (P.drop (64 * j)).take 64 = c := ⟨_, rfl⟩
      have hcl : c.length = 64 := by rw [← hc, List.length_take, List.length_drop, HPl.out]; omega
      have hcx : ∀ i, i < 64 → c.getD i 0 = P.getD (64 * j + i) 0 := by
        intro i hi
        rw [← hc, List.getD_eq_getElem?_getD, List.getD_eq_getElem?_getD, List.getElem?_take, if_pos hi, List.getElem?_drop]
      have hPb : ∀ i, P.getD i 0 < 256 := by
        intro i
        rw [← HP.out.1]
        refine u8_get' (fun x hx => ?_) i
        unfold Ref3.padB at hx
        rcases List.mem_append.1 hx with h | h
        · exact HX.out x h
        · rcases List.mem_cons.1 h with h | h
          · omega
          · rcases List.mem_append.1 h with h | h
            · have := (List.mem_replicate.1 h).2; omega
            · exact be8_lt h
      have hcb : ∀ i, c.getD i 0 < 256 := by
        intro i
        by_cases hi : i < 64
        · rw [hcx i hi]; exact hPb _
        · rw [List.getD_eq_getElem?_getD, List.getElem?_eq_none (by omega)]; decide
      have HCb := hid hcb
      have HCx := hid hcx
      have HC := hid hc
      have hmix := hid (show Ref3.blocks gk' (Sha.mix ws c) (P.drop (64 * (j + 1))) = Ref3.blocks n Sha.St.new.ws P by
        have := HBk.out
        rw [Ref3.blocks, hc, List.drop_drop] at this
        rw [show 64 * (j + 1) = 64 * j + 64 by omega]
        exact this)
      clear hc hcx hPb hcb HBk hcl
      obtain ⟨am', ao, ca, ea, _, _, hma, hmc⟩ := HM.out.at_ (by rw [ints_length, HPl.out]; omega)
      have HMc : Hid (∀ i, i < 64 * n → wr.cell? ⟨am', ao + i, none⟩ = some (.int .u8 (P.getD i 0 : Nat))) := by
        intro i hi
        rw [HKp.out.cell (x := ⟨am', ao + i, none⟩) hma.1, hmc i (by rw [ints_length, HPl.out]; exact hi), ints_get _ _ _ (by rw [HPl.out]; exact hi)]
      obtain ⟨rfl, _, rfl⟩ : am = some ⟨am', ao, none⟩ ∧ True ∧ cm = ca := by
        injection ea with e1 e2 e3
        exact ⟨e1, trivial, e3⟩
      have HMa := hid hma
      clear ea hmc hma
      have mk : ∀ w0 : World, (Instr.makeSlice 138 (.int .i64 64) (.int .i64 64)).run Tryd.prog w0 = .ok (.slice (some ⟨w0.heap.size, 0, none⟩) 64 64) (w0.alloc (.cells (ints .u32 (schedTo c 0)).toArray 142)) := fun w0 => make_ints (P := Tryd.prog) 138 142 i0 .u32 4 Tryd.underlying138 hi0 hz0 hs0 hb0 64 64 (by decide) (by decide) (by decide) w0
      go_wp2_with fail
      clear mk
      obtain ⟨wo, rfl⟩ : ∃ wo : World, wo = wr := ⟨_, rfl⟩
      obtain ⟨gko, rfl⟩ : ∃ g, g = gk' := ⟨_, rfl⟩
      go_loopg [37] 64 (fun k s37 wr => ∃ t : Nat, t + k = 64 ∧ s37 = .int .i64 (t : Int) ∧ wr.heap[wo.heap.size]? = some (.cells (ints .u32 (schedTo c t)).toArray 142 (0, 0)) ∧ Keep (· < wo.heap.size) wo wr)
      case atStart => exact ⟨0, rfl, rfl, heap_alloc_new wo _, (Keep.refl _ _).alloc _ (fun _ h => h)⟩
      case round =>
        obtain ⟨t, htk, rfl, hW2, hK2⟩ := hrel
        have HW2 := hid hW2
        have HK2 := hid hK2
        have hXl := schedTo_length c t
        clear hW2 hK2
        by_cases ht : t < 64
        · obtain ⟨k', rfl⟩ : ∃ k', gk = k' + 1 := ⟨gk - 1, by omega⟩
          have t2 : decide ((t : Int) < 64) = true := by simp; omega
          have cf := frozen_at HW2.out t
          have hlt : (t : Int) < 64 := by omega
          obtain ⟨X, hX⟩ : ∃ X, schedTo c t = X := ⟨_, rfl⟩
          have hXb : ∀ k, X.getD k 0 < 4294967296 := by rw [← hX]; exact schedTo_lt c t HCb.out
          rw [hX] at HW2 hXl
          have HX2 := hid hX
          have HXb := hid hXb
          clear hX hXb
          obtain ⟨old, cw⟩ : ∃ v, wr.cell? ⟨wo.heap.size, t, none⟩ = some v := ⟨_, by rw [cell_at HW2.out, ints_get _ _ _ (by omega)]⟩
          have wt : IntKind.i64.wrap ((t : Int) + 1) = (t : Int) + 1 := i64_of (n := t + 1) (by omega) (by omega)
          by_cases h16 : t < 16
          ·
            obtain ⟨q, hq⟩ : ∃ q, 64 * j + 4 * t = q := ⟨_, rfl⟩
            have hqn : q + 3 < 64 * n := by omega
            have hcell : ∀ i, i < 4 → wr.cell? ⟨am', ao + (q + i), none⟩ = some (.int .u8 (c.getD (4 * t + i) 0 : Nat)) := by
              intro i hi
              rw [HK2.out.cell (x := ⟨am', ao + (q + i), none⟩) (Nat.lt_of_lt_of_le HMa.out.1 hzr), HMc.out (q + i) (by omega), HCx.out _ (by omega), show 64 * j + (4 * t + i) = q + i by omega]
            have y0 := hcell 0 (by decide)
            have y1 := hcell 1 (by decide)
            have y2 := hcell 2 (by decide)
            have y3 := hcell 3 (by decide)
            rw [Nat.add_zero, Nat.add_zero] at y0
            obtain ⟨b0, e0⟩ : ∃ x, c.getD (4 * t) 0 = x := ⟨_, rfl⟩
            obtain ⟨b1, e1⟩ : ∃ x, c.getD (4 * t + 1) 0 = x := ⟨_, rfl⟩
            obtain ⟨b2, e2⟩ : ∃ x, c.getD (4 * t + 2) 0 = x := ⟨_, rfl⟩
            obtain ⟨b3, e3⟩ : ∃ x, c.getD (4 * t + 3) 0 = x := ⟨_, rfl⟩
            rw [e0] at y0
            rw [e1] at y1
            rw [e2] at y2
            rw [e3] at y3
            have hv := word4 c t b0 b1 b2 b3 ⟨e0, e1, e2, e3⟩ (e0 ▸ HCb.out (4 * t)) (e1 ▸ HCb.out (4 * t + 1)) (e2 ▸ HCb.out (4 * t + 2)) (e3 ▸ HCb.out (4 * t + 3))
            refine refof_word _ _ _ _ _ _ _ _ _ _ _ _ _ _ _ _ _ _ _ _ _ _ _ _ _ _ _ _ _ _ _ _ _ _ _ _ _ _ _ _ _ _ _ _ _ _ _ _ _ _ _ _ _ _ _ _ _ _ _ _ _ _ _ _ _ _ _ _ _ _ _ _ _ _ _ _ _ _ _ _ _ _ _ _ _ _ _ _ _ _ _ _ _ _ _ _ _ _ _ _ _ _ _ _ _ _ _ _ _ _ _ _ _ _ _ _ _ _ _ _ _ _ _ _ _ _ _ _ _ _ _ _ _ _ _ _ _ _ _ _ _ _ _ _ _ _ _ _ _ _ _ _ _ _ _ _ _ _ _ _ _ _ _ _ _ _ _ _ _ _ _ _ _ _ _ _ _ _ _ _ _ _ _ _ _ _ _ _ _ _ _ _ _ _ _ _ _ _ _ _ _ _ _ _ _ _ _ _ _ _ _ _ _ _ _ _ _ _ _ _ _ _ _ _ _ _ _ _ _ _ _ _ _ _ _ _ _ _ _ _ _ _ _ _ _ _ _ _ _ _ _ _ _ _ _ _ _ _ _ _ _ _ _ _ _ _ _ _ _ _ _ _ _ _ _ _ _ _ _ _ _ _ _ _ _ _ _ _ _ am' ao cm n j wo.heap.size t q b0 b1 b2 b3 (Sha.wordTo c t 4) old wr _ _ hq hqn hnl h16 y0 y1 y2 y3 cw cf hv ?_
            iterate 99 (intro _)
            intro m2
            go_step
            go_roundg k'
            case measure => omega
            case rel =>
              refine ⟨t + 1, by omega, by go_num, ?_, (HK2.out.drewN _).setCell _ (by simp)⟩
              rw [set_at (w := wr.drewN m2) HW2.out, schedTo_word c t h16, HX2.out]
              exact congrArg (fun l : List Value => some (Obj.cells l.toArray _ _)) (ints_set .u32 X t _)
          ·
            obtain ⟨i, hti⟩ : ∃ i, t = 16 + i := ⟨t - 16, by omega⟩
            have e16 : schedTo c t = Sha.more (Sha.load c 16) i := by rw [schedTo_more c t (by omega), hti, Nat.add_sub_cancel_left]
            obtain ⟨x0, e0⟩ : ∃ x, X.getD i 0 = x := ⟨_, rfl⟩
            obtain ⟨x1, e1⟩ : ∃ x, X.getD (1 + i) 0 = x := ⟨_, rfl⟩
            obtain ⟨x9, e9⟩ : ∃ x, X.getD (9 + i) 0 = x := ⟨_, rfl⟩
            obtain ⟨x14, e14⟩ : ∃ x, X.getD (14 + i) 0 = x := ⟨_, rfl⟩
            have c0 : wr.cell? ⟨wo.heap.size, i, none⟩ = some (.int .u32 (x0 : Nat)) := by rw [cell_at HW2.out, ints_get _ _ _ (by omega), e0]
            have c1 : wr.cell? ⟨wo.heap.size, 1 + i, none⟩ = some (.int .u32 (x1 : Nat)) := by rw [cell_at HW2.out, ints_get _ _ _ (by omega), e1]
            have c9 : wr.cell? ⟨wo.heap.size, 9 + i, none⟩ = some (.int .u32 (x9 : Nat)) := by rw [cell_at HW2.out, ints_get _ _ _ (by omega), e9]
            have c14 : wr.cell? ⟨wo.heap.size, 14 + i, none⟩ = some (.int .u32 (x14 : Nat)) := by rw [cell_at HW2.out, ints_get _ _ _ (by omega), e14]
            have b1 : x1 < 4294967296 := e1 ▸ HXb.out (1 + i)
            have b14 : x14 < 4294967296 := e14 ▸ HXb.out (14 + i)
            have hv := more_int X i x0 x1 x9 x14 ⟨e0, e1, e9, e14⟩ b1 b14
            refine refof_more _ _ _ _ _ _ _ _ _ _ _ _ _ _ _ _ _ _ _ _ _ _ _ _ _ _ _ _ _ _ _ _ _ _ _ _ _ _ _ _ _ _ _ _ _ _ _ _ _ _ _ _ _ _ _ _ _ _ _ _ _ _ _ _ _ _ _ _ _ _ _ _ _ _ _ _ _ _ _ _ _ _ _ _ _ _ _ _ _ _ _ _ _ _ _ _ _ _ _ _ _ _ _ _ _ _ _ _ _ _ _ _ _ _ _ _ _ _ _ _ _ _ _ _ _ _ _ _ _ _ _ _ _ _ _ _ _ _ _ _ _ _ _ _ _ _ _ _ _ _ _ _ _ _ _ _ _ _ _ _ _ _ _ _ _ _ _ _ _ _ _ _ _ _ _ _ _ _ _ _ _ _ _ _ _ _ _ _ _ _ _ _ _ _ _ _ _ _ _ _ _ _ _ _ _ _ _ _ _ _ _ _ _ _ _ _ _ _ _ _ _ _ _ _ _ _ _ _ _ _ _ _ _ _ _ _ _ _ _ _ _ _ _ _ _ _ _ _ _ _ _ _ _ _ _ _ _ _ _ _ _ _ _ _ _ _ _ _ _ _ _ _ _ _ _ _ _ _ _ _ _ _ _ _ _ _ _ _ _ _ _ wo.heap.size t i x0 x1 x9 x14 _ old wr _ _ hti ht b1 b14 c0 c1 c9 c14 cw cf hv ?_
            iterate 99 (intro _)
            intro m5
            go_step
            go_roundg k'
            case measure => omega
            case rel =>
              refine ⟨t + 1, by omega, by go_num, ?_, (HK2.out.drewN _).setCell _ (by simp)⟩
              rw [set_at (w := wr.drewN m5) HW2.out]
              have := ints_set .u32 X t ((X.getD i 0 + X.getD (9 + i) 0 + Sha.ss0 (X.getD (1 + i) 0) + Sha.ss1 (X.getD (14 + i) 0)) % Sha.M)
              refine congrArg (fun l : List Value => some (Obj.cells l.toArray _ _)) (this.trans ?_)
              rw [schedTo_more c (t + 1) (by omega), show t + 1 - 16 = i + 1 by omega, Sha.more, ← e16, HX2.out, hti]
        · obtain rfl : t = 64 := by omega
          clear hXl
          have HW64 : Hid (wr.heap[wo.heap.size]? = some (.cells (ints .u32 (Sha.sched c)).toArray 142 (0, 0))) := HW2.out
          have hwz : wo.heap.size < wr.heap.size := (Array.getElem?_eq_some_iff.1 HW64.out).1
          clear HW2
          have HA := hid (append_first (P := Tryd.prog) 138 142 i0 (.int .u32 0) 4 Tryd.underlying138 hi0 hz0 hs0 hb0 rfl wr 138 (.slice (some ⟨g, 0, none⟩) 8 gc) (ints .u32 ws) (p := fun _ => True) ((HRow.out.cells.keep HK2.out (fun b hb => HRow.out.lt hb)).mono (fun _ _ => trivial)) (ints_one _ _) (by rw [hw8]; decide))
          go_wp2_with (at_builtin; refine wpList_app rfl (.tmp 135) (.tmp 136) 138 138 rfl _ HA.out ?_; rintro v3 w3 ⟨hown3, hg3, hz3⟩)
          obtain ⟨B3, hB3⟩ : ∃ B, wr.heap.size = B := ⟨_, rfl⟩
          have hcv : Cells w3 (fun k => B3 ≤ k) v3 (ints .u32 (Sha.ofList ws).list) := by
            have e : (Sha.ofList ws).list = ws := by
              obtain ⟨a, b, c, d, e, f, g, h, rfl⟩ : ∃ a b c d e f g h, ws = [a, b, c, d, e, f, g, h] := by
                match ws, hwl with
                | [a, b, c, d, e, f, g, h], _ => exact ⟨a, b, c, d, e, f, g, h, rfl⟩
              rfl
            rw [e, ← hB3]
            exact owns_cells hown3
          have HK3 : Hid (Keep (· < wo.heap.size) wo w3) := HK2.out.trans (hg3.mono (fun k h => Nat.lt_trans h hwz))
          have HW3 : Hid (w3.heap[wo.heap.size]? = some (.cells (ints .u32 (Sha.sched c)).toArray 142 (0, 0))) := (hg3.block _ hwz).trans HW64.out
          have HCV := hid hcv
          rw [hB3] at hwz ⊢
          have hz3' : B3 ≤ w3.heap.size := by rw [← hB3]; exact hz3
          clear hown3 hg3 hcv hz3 HK2 HW64 HA hB3
          clear wr
          go_loopg [11, 140] 64 (fun k s11 s140 wr => ∃ t : Nat, ∃ r : Sha.V8, t + k = 64 ∧ s140 = .int .i64 (t : Int) ∧ Hid (r = Sha.rounds (Sha.sched c) (Sha.ofList ws) t) ∧ Cells wr (fun k => B3 ≤ k) s11 (ints .u32 r.list) ∧ wr.heap[wo.heap.size]? = some (.cells (ints .u32 (Sha.sched c)).toArray 142 (0, 0)) ∧ Keep (· < wo.heap.size) wo wr ∧ B3 ≤ wr.heap.size)
          case atStart => exact ⟨0, _, rfl, rfl, rfl, HCV.out, HW3.out, HK3.out, hz3'⟩
          case round =>
            obtain ⟨t, r, htk, rfl, HR, hc, hw, hk, hbz⟩ := hrel
            have HW4 := hid hw
            have HK4 := hid hk
            clear HW3 HK3 HCV hz3' hw hk
            obtain ⟨vb, vo, vc, rfl, hv1, hv2, hv3, hv4⟩ := hc.at_ (by rw [ints_length]; exact Nat.zero_lt_succ 7)
            rw [ints_length] at hv1 hv4 ⊢
            rw [show r.list.length = 8 from rfl] at hv1 hv4 ⊢
            have HC4 := hid hc
            have HV4 := hid hv4
            clear hc hv4
            by_cases ht : t < 64
            · obtain ⟨k', rfl⟩ : ∃ k', gk = k' + 1 := ⟨gk - 1, by omega⟩
              have t2 : decide ((t : Int) < 64) = true := by simp; omega
              have ok : r.ok := HR.out ▸ rounds_ok _ _ t (ofList_ok ws HWl.out)
              obtain ⟨ka, hka⟩ : ∃ k, Sha.turns.getD t 0 = k := ⟨_, rfl⟩
              obtain ⟨xa, hxa⟩ : ∃ k, (Sha.sched c).getD t 0 = k := ⟨_, rfl⟩
              have hkb : Keep (· < B1) w1 wr := HKp.out.trans (HK4.out.mono (fun k h => Nat.lt_of_lt_of_le h hzr))
              have ct : wr.cell? ⟨hb, 1, none⟩ = some (.slice (some ⟨tg, 0, none⟩) 64 tc) := (hkb.cell (x := ⟨hb, 1, none⟩) HT.out.1.1).trans HT.out.2.1
              have ck : wr.cell? ⟨tg, t, none⟩ = some (.int .u32 (ka : Nat)) := by rw [hkb.cell (x := ⟨tg, t, none⟩) HT.out.1.2, HT.out.2.2 t ht, ints_get _ _ _ (by rw [turns_length]; omega), hka]
              have cx : wr.cell? ⟨wo.heap.size, t, none⟩ = some (.int .u32 (xa : Nat)) := by rw [cell_at HW4.out, ints_get _ _ _ (by rw [sched_length]; omega), hxa]
              have f0 : wr.cell? ⟨vb, vo, none⟩ = some (.int .u32 (r.a : Nat)) := HV4.out 0 (by decide)
              have f1 : wr.cell? ⟨vb, vo + 1, none⟩ = some (.int .u32 (r.b : Nat)) := HV4.out 1 (by decide)
              have f2 : wr.cell? ⟨vb, vo + 2, none⟩ = some (.int .u32 (r.c : Nat)) := HV4.out 2 (by decide)
              have f3 : wr.cell? ⟨vb, vo + 3, none⟩ = some (.int .u32 (r.d : Nat)) := HV4.out 3 (by decide)
              have f4 : wr.cell? ⟨vb, vo + 4, none⟩ = some (.int .u32 (r.e : Nat)) := HV4.out 4 (by decide)
              have f5 : wr.cell? ⟨vb, vo + 5, none⟩ = some (.int .u32 (r.f : Nat)) := HV4.out 5 (by decide)
              have f6 : wr.cell? ⟨vb, vo + 6, none⟩ = some (.int .u32 (r.g : Nat)) := HV4.out 6 (by decide)
              have f7 : wr.cell? ⟨vb, vo + 7, none⟩ = some (.int .u32 (r.h : Nat)) := HV4.out 7 (by decide)
              refine refof_turn _ _ _ _ _ _ _ _ _ _ _ _ _ _ _ _ _ _ _ _ _ _ _ _ _ _ _ _ _ _ _ _ _ _ _ _ _ _ _ _ _ _ _ _ _ _ _ _ _ _ _ _ _ _ _ _ _ _ _ _ _ _ _ _ _ _ _ _ _ _ _ _ _ _ _ _ _ _ _ _ _ _ _ _ _ _ _ _ _ _ _ _ _ _ _ _ _ _ _ _ _ _ _ _ _ _ _ _ _ _ _ _ _ _ _ _ _ _ _ _ _ _ _ _ _ _ _ _ _ _ _ _ _ _ _ _ _ _ _ _ _ _ _ _ _ _ _ _ _ _ _ _ _ _ _ _ _ _ _ _ _ _ _ _ _ _ _ _ _ _ _ _ _ _ _ _ _ _ _ _ _ _ _ _ _ _ _ _ _ _ _ _ _ _ _ _ _ _ _ _ _ _ _ _ _ _ _ _ _ _ _ _ _ _ _ _ _ _ _ _ _ _ _ _ _ _ _ _ _ _ _ _ _ _ _ _ _ _ _ _ _ _ _ _ _ _ _ _ _ _ _ _ _ _ _ _ _ _ _ _ _ _ _ _ _ _ _ _ _ _ _ _ _ _ _ _ _ _ _ _ _ _ _ _ _ _ _ _ hb wo.heap.size vb vo vc t ka xa tg tc r wr _ _ ht ok ct ck cx f0 f1 f2 f3 f4 f5 f6 f7 ?_
              iterate 119 (intro _)
              intro wx kx
              go_step
              go_roundg k'
              case measure => omega
              case rel =>
                have zx' : B3 ≤ wx.heap.size := Nat.le_trans hbz kx.size
                have ka' : Keep (· < wx.heap.size) wx (wx.alloc (.cells (ints .u32 (Sha.turn r ka xa).list).toArray 142)) := (Keep.refl _ _).alloc _ (fun _ h => h)
                refine ⟨t + 1, Sha.turn r ka xa, by omega, by go_num, ?_, ?_, ?_, ?_, ?_⟩
                · show _ = Sha.turn (Sha.rounds _ (Sha.ofList ws) t) (Sha.turns.getD t 0) ((Sha.sched c).getD t 0)
                  rw [← HR.out, hka, hxa]
                · have := Cells.of_block (w := wx.alloc (.cells (ints .u32 (Sha.turn r ka xa).list).toArray 142)) (b := wx.heap.size) (off := 0) (n := 8) (cap := 8) (cur := ints .u32 (Sha.turn r ka xa).list) (p := fun k => B3 ≤ k) (heap_alloc_new wx _) zx' (Nat.le_refl _) (Nat.le_refl _) (by decide)
                  rwa [List.drop_zero, List.take_of_length_le (by exact Nat.le_refl 8)] at this
                · exact (ka'.block _ (by omega)).trans ((kx.block _ trivial).trans HW4.out)
                · exact HK4.out.trans ((kx.mono (fun _ _ => trivial)).trans (ka'.mono (fun k h => by omega)))
                · exact Nat.le_trans zx' (by simp)
            · obtain rfl : t = 64 := by omega
              have HMX : Hid (Sha.addTo ws r.list 8 = Sha.mix ws c) := by
                show _ = Sha.addTo ws (Sha.rounds (Sha.sched c) (Sha.ofList ws) 64).list 8
                rw [HR.out]
              have HRW := hid (HRow.out.keep HK4.out (fun b hb => HRow.out.lt hb))
              have hgz : g < B3 := Nat.lt_trans hs3 hwz
              have hvg : vb ≠ g := by omega
              go_wp2_with fail
              obtain ⟨wq, rfl⟩ : ∃ wq : World, wq = wr := ⟨_, rfl⟩
              go_loopg [259] 8 (fun k s259 wr => ∃ i, i + k = 8 ∧ s259 = .int .i64 (i : Int) ∧ Row wr 142 (.slice (some ⟨g, 0, none⟩) 8 gc) (ints .u32 (Sha.addTo ws r.list i)) ∧ Keep (· ≠ g) wq wr)
              case atStart => exact ⟨0, rfl, rfl, HRW.out, Keep.refl _ _⟩
              case round =>
                obtain ⟨i, hik, rfl, hrow5, hk5⟩ := hrel
                have H5 := hid (And.intro hrow5 hk5)
                clear hrow5 hk5
                by_cases hi : i < 8
                · obtain ⟨x, hx⟩ : ∃ x, (Sha.addTo ws r.list i).getD i 0 = x := ⟨_, rfl⟩
                  obtain ⟨y, hy⟩ : ∃ y, r.list.getD i 0 = y := ⟨_, rfl⟩
                  have hal : (Sha.addTo ws r.list i).length = 8 := by rw [addTo_length, hwl]
                  obtain ⟨g', gc', e, _, _, hg3, hg4, hg5⟩ := H5.out.1.blk (by rw [ints_length, hal]; decide)
                  injection e with e1 e2 e3
                  injection e1 with e1
                  injection e1 with e1
                  subst e1
                  clear e2 e3
                  have cs5 : wr.cell? ⟨g, i, none⟩ = some (.int .u32 (x : Nat)) := by rw [hg4 i (by rw [ints_length, hal]; exact hi), ints_get _ _ _ (by rw [hal]; exact hi), hx]
                  have cf5 := hg5 i
                  have cy5 : wr.cell? ⟨vb, vo + i, none⟩ = some (.int .u32 (y : Nat)) := by rw [H5.out.2.cell (x := ⟨vb, vo + i, none⟩) hvg, HV4.out i hi, ints_get _ _ _ (by exact hi), hy]
                  have HXY := hid (And.intro hx hy)
                  have l0 : (i : Int) < 8 := by omega
                  clear hx hy hg4 hg5 hal
                  go_wp2_with fail
                  refine Go.Proofs.Tail.wp_region_quiet_tail 10 (by kernel_rfl) (by kernel_rfl) ?_
                  simp only [List.take_succ_cons, List.take_zero, List.drop_succ_cons, List.drop_zero]
                  repeat (go_big_quiet_step (fail))
                  refine wpQuiet_nil ?_
                  intro w9 hw9
                  obtain ⟨m5, rfl⟩ := hw9
                  go_wp2_with fail
                  go_roundg (gk - 1)
                  case measure => omega
                  case rel =>
                    refine ⟨i + 1, by omega, by go_num, ?_, (H5.out.2.drewN m5).setCell _ (by simp)⟩
                    have hs := Row.set (w := wr.drewN m5) (H5.out.1.keep ((Keep.refl (fun _ => True) wr).drewN m5) (fun _ _ => trivial)) i (by rw [ints_length, addTo_length, hwl]; exact hi) (.int .u32 (((x : Int) + (y : Int)) % 4294967296))
                    have e5 : ((x : Int) + (y : Int)) % 4294967296 = (((Sha.addTo ws r.list i).getD i 0 + r.list.getD i 0) % Sha.M : Nat) := by
                      rw [HXY.out.1, HXY.out.2]; simp only [Sha.M]; omega
                    rw [e5] at hs ⊢
                    have e6 := ints_set .u32 (Sha.addTo ws r.list i) i (((Sha.addTo ws r.list i).getD i 0 + r.list.getD i 0) % Sha.M)
                    rw [e6] at hs
                    exact hs
                · obtain rfl : i = 8 := by omega
                  go_wp2_with fail
                  go_roundg gko
                  case measure => omega
                  case rel =>
                    have h5 := H5.out.1
                    rw [HMX.out] at h5
                    refine ⟨j + 1, Sha.mix ws c, by omega, ?_, h5, by rw [mix_length]; exact hwl, mix_lt ws c HWl.out, hmix.out, HKp.out.trans ((HK4.out.mono (fun k h => Nat.lt_of_lt_of_le h hzr)).trans (H5.out.2.mono (fun k h => by omega))), ?_⟩
                    · show Value.int .i64 _ = Value.int .i64 _
                      congr 1
                    · have := H5.out.2.size
                      omega
    · have t1 : decide (((64 * j : Nat) : Int) < ((64 * n : Nat) : Int)) = false := by simp; omega
      obtain rfl : gk = 0 := by omega
      obtain rfl : j = n := by omega
      have HWS : Hid (ws.flatMap Sha.be4 = Sha.of bs) := by
        have h := HBk.out
        show _ = Sha.of bs
        rw [Ref3.of_blocks, HP.out.1, HP.out.2, ← h]
        rfl
      clear HBk
      go_wp2_with fail
      refine wp_world (fun w5 => w5.ownsRow wr.heap.size 5 1 (.slice (some ⟨wr.heap.size, 0, none⟩) 0 0) (ints .u8 ((ws.take 0).flatMap Sha.be4)).length (ints .u8 ((ws.take 0).flatMap Sha.be4)) ∧ Keep (· < wr.heap.size) wr w5 ∧ wr.heap.size ≤ w5.heap.size) ⟨owns_empty wr wr.heap.size 5 (Nat.le_refl _), (Keep.refl _ _).alloc _ (fun _ h => h), by simp⟩ ?_
      rintro w5 ⟨ho5, hk5, hz5⟩
      obtain ⟨B5, hB5⟩ : ∃ B, wr.heap.size = B := ⟨_, rfl⟩
      rw [hB5] at ho5 hk5 hz5 hzr hs3 ⊢
      have H5 := hid (And.intro ho5 hk5)
      have HCW : Hid (∀ wx : World, Keep (· < B5) wr wx → ∀ i, i < 8 → wx.cell? ⟨g, i, none⟩ = some (.int .u32 (ws.getD i 0 : Nat))) := by
        intro wx kx i hi
        rw [kx.cell (x := ⟨g, i, none⟩) hs3, HS.out.1 i (by exact hi), ints_get _ _ _ (by omega)]
      clear ho5 hk5 hB5
      obtain ⟨wo, rfl⟩ : ∃ wo : World, wo = wr := ⟨_, rfl⟩
      go_loopg [16, 276] 8 (fun k s16 s276 wr => ∃ i, i + k = 8 ∧ s276 = .int .i64 (i : Int) ∧ wr.ownsRow B5 5 1 s16 (ints .u8 ((ws.take i).flatMap Sha.be4)).length (ints .u8 ((ws.take i).flatMap Sha.be4)) ∧ Keep (· < B5) wo wr ∧ B5 ≤ wr.heap.size)
      case atStart => exact ⟨0, rfl, rfl, H5.out.1, H5.out.2, hz5⟩
      case round =>
        obtain ⟨i, hik, rfl, hoi, hki, hzi⟩ := hrel
        by_cases hi : i < 8
        · have cx := HCW.out wr hki i hi
          have hlen : ((ws.take i).flatMap Sha.be4).length ≤ 28 := by
            have : ∀ l : List Nat, (l.flatMap Sha.be4).length = 4 * l.length := by
              intro l
              induction l with
              | nil => rfl
              | cons a l ih => rw [List.flatMap_cons, List.length_append, ih]; simp [Sha.be4]; omega
            rw [this, List.length_take]; omega
          refine refof_out _ _ _ _ _ _ _ _ _ _ _ _ _ _ _ _ _ _ _ _ _ _ _ _ _ _ _ _ _ _ _ _ _ _ _ _ _ _ _ _ _ _ _ _ _ _ _ _ _ _ _ _ _ _ _ _ _ _ _ _ _ _ _ _ _ _ _ _ _ _ _ _ _ _ _ _ _ _ _ _ _ _ _ _ _ _ _ _ _ _ _ _ _ _ _ _ _ _ _ _ _ _ _ _ _ _ _ _ _ _ _ _ _ _ _ _ _ _ _ _ _ _ _ _ _ _ _ _ _ _ _ _ _ _ _ _ _ _ _ _ _ _ _ _ _ _ _ _ _ _ _ _ _ _ _ _ _ _ _ _ _ _ _ _ _ _ _ _ _ _ _ _ _ _ _ _ _ _ _ _ _ _ _ _ _ _ _ _ _ _ _ _ _ _ _ _ _ _ _ _ _ _ _ _ _ _ _ _ _ _ _ _ _ _ _ _ _ _ _ _ _ _ _ _ _ _ _ _ _ _ _ _ _ _ _ _ _ _ _ _ _ _ _ _ _ _ _ _ _ _ _ _ _ _ _ _ _ _ _ _ _ _ _ _ _ _ _ _ _ _ _ _ _ _ _ _ _ _ _ _ _ _ _ _ _ _ _ _ _ _ _ g gc i (ws.getD i 0) B5 _ wr _ _ hi (HWl.out i) hlen cx hoi hzi ?_
          iterate 18 (intro _)
          intro sv2 w6 ho6 hk6 hz6
          go_step
          go_roundg (gk - 1)
          case measure => omega
          case rel =>
            refine ⟨i + 1, by omega, by go_num, ?_, hki.trans hk6, hz6⟩
            have e : (ws.take (i + 1)).flatMap Sha.be4 = (ws.take i).flatMap Sha.be4 ++ Sha.be4 (ws.getD i 0) := by
              rw [← take_snoc' ws i (by omega), List.flatMap_append]
              simp
            rw [e]
            exact ho6
        · obtain rfl : i = 8 := by omega
          rw [List.take_of_length_le (by omega), HWS.out] at hoi
          have H6 := hid (And.intro hoi hki)
          clear hoi hki
          go_wp2_with fail
          go_ret
          refine ⟨_, rfl, (HK1.out.trans (HKp.out.mono (fun k h => Nat.lt_of_lt_of_le h k1z))).trans (H6.out.2.mono (fun k h => by omega)), (owns_cells H6.out.1).mono (fun k h => by omega)⟩
end Go.Proofs.YtnpneippahdigaaDoor
