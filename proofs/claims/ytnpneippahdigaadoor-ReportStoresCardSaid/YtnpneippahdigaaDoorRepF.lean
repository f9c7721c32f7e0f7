/-
  Step by step: 'in' and 'Form' of the reference of layer 20.
-/
import Derived.Test.YtnpneippahdigaaDoorRepA
import Derived.BigQuiet
import Derived.Deep.CutBlock
import Derived.Deep.QuietTactic
import Derived.Test.YtnpneippahdigaaDoorTail
namespace Go.Proofs.YtnpneippahdigaaDoor
open Go.RowKit Go.Proofs.Mem Go.Proofs.Txt
theorem in20_walk (n a b : Int) (w : World) : Calls Tryd.prog 57 #[.int .i64 n, .int .i64 a, .int .i64 b] w fun e w' => e = .returned (.bool (decide (a ≤ n) && decide (n ≤ b))) ∧ w = w' := by
  by_cases h1 : a ≤ n
  · have t1 : decide (a ≤ n) = true := by simpa using h1
    rw [t1]
    by_cases h2 : n ≤ b
    · have t2 : decide (n ≤ b) = true := by simpa using h2
      rw [t2]
      go_enter Tryd.func57, Tryd.ntmps57
      go_wp2_with fail
      go_ret
      exact ⟨rfl, rfl⟩
    · have t2 : decide (n ≤ b) = false := by simpa using h2
      rw [t2]
      go_enter Tryd.func57, Tryd.ntmps57
      go_wp2_with fail
      go_ret
      exact ⟨rfl, rfl⟩
  · have t1 : decide (a ≤ n) = false := by simpa using h1
    rw [t1]
    go_enter Tryd.func57, Tryd.ntmps57
    go_wp2_with fail
    go_ret
    exact ⟨rfl, rfl⟩
/-- the same, its value under a name. -/
theorem in20_is (n a b : Int) (t : Bool) (w : World) (h : (decide (a ≤ n) && decide (n ≤ b)) = t) : Calls Tryd.prog 57 #[.int .i64 n, .int .i64 a, .int .i64 b] w fun e w' => e = .returned (.bool t) ∧ w = w' := by
  rw [← h]; exact in20_walk n a b w



theorem end_one (o f g n at_ : Int) : (endC o f g n at_).toArray.all (·.oneCell') = true := by simp [endC, Value.oneCell']
theorem raceOk_in (la : Int) (x : Rp.Race) (h : -1 ≤ la) : Rp.raceOk la x = (((((decide (0 ≤ x.pl) && decide (x.pl ≤ 127)) && decide (la < x.pl)) && (decide (0 ≤ x.fi) && decide (x.fi ≤ 8192))) && (decide (0 ≤ x.se) && decide (x.se ≤ 8192))) && (x.fw || x.sw)) := by
  unfold Rp.raceOk
  have e : (decide (la + 1 ≤ x.pl) && decide (x.pl ≤ 127)) = ((decide (0 ≤ x.pl) && decide (x.pl ≤ 127)) && decide (la < x.pl)) := by
    rw [Bool.eq_iff_iff]; simp; omega
  rw [e]
theorem lastOf_take (l : List Rp.Race) (k : Nat) (h : k < l.length) : Rp.lastOf (l.take (k + 1)) = l[k].pl := by rw [List.take_succ_eq_append_getElem h, Rp.lastOf_snoc]

set_option maxRecDepth 100000 in
set_option maxHeartbeats 8000000 in
theorem rform_walk (r : Rp.Rep) (v : Value) (w : World) (p : Nat → Prop) (hv : RacesAt w p v r.races) :
    Calls Tryd.prog 16 #[.agg (rpC r v).toArray] w fun e w' => e = .returned (.bool (Rp.ok r)) ∧ Keep (· < w.heap.size) w w' := by
  have HV := hid (hv.lt.mono (q := fun b => b < w.heap.size) (fun _ h => h.1))
  obtain ⟨va, vc, rfl, hc1, hc2⟩ := hv.form
  obtain ⟨o, f, g, n, at_, st, l⟩ := r
  obtain ⟨N, hN⟩ : ∃ N, l.length = N := ⟨_, rfl⟩
  have HN := hid hN
  simp only at HV hc1 ⊢
  rw [hN] at hc1 HV ⊢
  have hi := end_size o f g n at_
  have h1 := end_one o f g n at_
  obtain ⟨oo, hoo⟩ : ∃ b, Rp.ok ⟨o, f, g, n, at_, st, l⟩ = b := ⟨_, rfl⟩
  rw [hoo]
  have HOO := hid hoo
  clear hv hN hoo
  go_enter Tryd.func16, Tryd.ntmps16
  have R0 := hid (range_at (heap_alloc_new w (.cells (rpC ⟨o, f, g, n, at_, st, l⟩ (.slice va N vc)).toArray 26)) 0 5)
  go_upto_region 2 with (first | refine wpList_load_mid rfl 23 (.tmp 6) rfl w.heap.size 0 rfl (endC o f g n at_) _ R0.out Tryd.underlying23 rfl hi ?_ | refine wpList_store_row rfl 23 (.tmp 3) (.tmp 7) rfl (w.heap.size + 1) (endC o f g n at_).toArray rfl rfl 23 _ (heap_alloc2_new w _ _) hi rfl h1 ?_)
  refine wp_world (fun w1 => Keep (· < w.heap.size) w w1 ∧ w1.heap[w.heap.size]? = some (.cells (rpC ⟨o, f, g, n, at_, st, l⟩ (.slice va N vc)).toArray 26 (0, 0)) ∧ w1.heap[w.heap.size + 1]? = some (.cells (endC o f g n at_).toArray 23 (0, 0)) ∧ w.heap.size + 1 < w1.heap.size)
    ⟨(((Keep.refl _ _).alloc _ (fun _ h => h)).trans (((Keep.refl _ _).alloc _ (fun _ h => h)).mono (fun b (h : b < w.heap.size) => by simp; omega))).setRow _ (by simp), ?_, heap_setRow (heap_alloc2_new w _ _) _, by simp⟩ ?_
  · have ks : ∀ (wq : World) (x : Array Value), Keep (fun b => b ≠ w.heap.size + 1) wq (wq.setRow (w.heap.size + 1) x) := fun wq x => (Keep.refl _ _).setRow _ (by simp)
    exact ((ks _ _).block w.heap.size (by simp)).trans (((Keep.refl _ _).alloc _ (fun _ h => h)).block w.heap.size (by simp) |>.trans (heap_alloc_new w _))
  rintro w1 ⟨k1, R1, E1, z1⟩
  have SS := hid (show ∀ wx : World, Keep (· < w1.heap.size) w1 wx → wx.cell? ⟨w.heap.size, 5, none⟩ = some (.int .i64 st) ∧ wx.cell? ⟨w.heap.size, 6, none⟩ = some (.slice va N vc) from fun wx kx => by
    have h := (kx.block _ (by omega)).trans R1
    exact ⟨cell_at h 5, cell_at h 6⟩)
  have e0 : w1.cell? ⟨w.heap.size + 1, 0, none⟩ = some (.int .i64 o) := cell_at E1 0
  have e1 : w1.cell? ⟨w.heap.size + 1, 1, none⟩ = some (.int .i64 f) := cell_at E1 1
  have e2 : w1.cell? ⟨w.heap.size + 1, 2, none⟩ = some (.int .i64 g) := cell_at E1 2
  have e3 : w1.cell? ⟨w.heap.size + 1, 3, none⟩ = some (.int .i64 n) := cell_at E1 3
  have e4 : w1.cell? ⟨w.heap.size + 1, 4, none⟩ = some (.int .i64 at_) := cell_at E1 4
  have K1 := hid k1
  have Z1 := hid z1
  clear R1 E1 k1 z1 hi h1 R0
  have NO := hid (show Rp.endOk o f g n at_ = false → oo = false from fun h => by rw [← HOO.out]; simp [Rp.ok, Rp.headOk, h])
  have HOK := hid (show Rp.endOk o f g n at_ = true → oo = ((decide (0 ≤ st) && decide (st ≤ 65537)) && decide (N ≤ 128) && Rp.racesOk l (-1)) from fun h => by rw [← HOO.out]; simp [Rp.ok, Rp.headOk, h, HN.out])
  obtain ⟨eb, heb⟩ : ∃ b, Rp.endOk o f g n at_ = b := ⟨_, rfl⟩
  have HE := hid heb
  rw [heb] at NO HOK
  clear heb
  try simp only [Act.put]
  go_upto_block 0 with fail
  go_cut [] (fun wx => wx = w1 ∧ eb = true)
  case rest =>
    obtain ⟨rfl, rfl⟩ := hcut
    have ho := HOK.out rfl
    have NOR := hid (show oo = ((decide (0 ≤ st) && decide (st ≤ 65537)) && decide (N ≤ 128) && Rp.racesOk l (-1)) from ho)
    clear ho HOK NO HE HOO e0 e1 e2 e3 e4
    obtain ⟨bs, hs⟩ : ∃ b, (decide (0 ≤ st) && decide (st ≤ 65537)) = b := ⟨_, rfl⟩
    obtain ⟨bn, hn⟩ : ∃ b, decide (N ≤ 128) = b := ⟨_, rfl⟩
    rw [hs, hn] at NOR
    have t128 : decide ((128 : Int) < (N : Int)) = !bn := by rw [← hn]; by_cases h : N ≤ 128 <;> simp [h] <;> omega
    have W4 := hid (fun w0 => in20_is st 0 65537 bs w0 hs)
    obtain ⟨s5, s6⟩ := SS.out wc (Keep.refl _ _)
    clear hs hn
    (cases bs; case' true => cases bn)
    all_goals (first | (obtain rfl : oo = false := NOR.out; go_wp2_with (go_at_call 57; (with_reducible refine (W4.out _).mono ?_; rintro e wq ⟨rfl, rfl⟩)); go_ret; exact ⟨rfl, K1.out⟩) | skip)
    have NOR2 := hid (show oo = Rp.racesOk l (-1) from NOR.out)
    clear NOR
    go_wp2_with (go_at_call 57; (with_reducible refine (W4.out _).mono ?_; rintro e wq ⟨rfl, rfl⟩))
    obtain ⟨w1, hw1⟩ : ∃ w1 : World, wc = w1 := ⟨_, rfl⟩
    rw [hw1] at SS K1 Z1 ⊢
    clear s5 s6 W4 t128 hw1
    go_loopg [73] N (fun k s73 wr => ∃ i : Nat, i + k = N ∧ s73 = .int .i64 (i : Int) ∧ Rp.racesOk (l.take i) (-1) = true ∧ Keep (· < w1.heap.size) w1 wr)
    case atStart => exact ⟨0, by omega, rfl, rfl, Keep.refl _ _⟩
    case round =>
      obtain ⟨i, hi, rfl, hok, hk⟩ := hrel
      have HK := hid hk
      clear hk
      by_cases hlt : i < N
      · have hlt' : i < l.length := by rw [HN.out]; exact hlt
        obtain ⟨a, len, cap, e, _, _, _, hx⟩ := HV.out
        obtain ⟨blk, off, ha, hb, hr⟩ := hx i l[i] (List.getElem?_eq_getElem hlt')
        have hprev : ∀ k, i = k + 1 → wr.cell? ⟨blk, off + k * 5, none⟩ = some (.int .i64 (Rp.lastOf (l.take i))) := fun k hk => by
          obtain ⟨blk', off', ha', _, hr'⟩ := hx k (l[k]'(by omega)) (List.getElem?_eq_getElem (by omega))
          rw [ha] at ha'
          injection ha' with ha'
          injection ha' with hb1 hb2 _
          subst hb1 hb2
          rw [hk, lastOf_take l k (by omega)]
          exact ((K1.out.trans (HK.out.mono (fun b h => Nat.lt_of_lt_of_le h K1.out.size))).cell (x := ⟨blk, off + k * 5, none⟩) hb).trans (hr' 0 _ rfl)
        injection e with ea eb2 ec2
        rw [ha] at ea
        subst ea
        have l0 : (i : Int) < (N : Int) := by omega
        have hso := Rp.racesOk_take l i hlt'
        rw [hok, Bool.true_and] at hso
        have hall : Rp.racesOk (l.take (i + 1)) (-1) = false → Rp.racesOk l (-1) = false := fun h => by
          rw [← List.take_append_drop (i + 1) l, Rp.racesOk_append, h]; rfl
        have hla : -1 ≤ Rp.lastOf (l.take i) ∧ Rp.lastOf (l.take i) ≤ 127 := Rp.lastOf_le _ hok
        have hl0 : i = 0 → Rp.lastOf (l.take i) = -1 := fun h => by subst h; rfl
        obtain ⟨x, hxx⟩ : ∃ x, l[i] = x := ⟨_, rfl⟩
        rw [hxx] at hr hso
        obtain ⟨la, hlae⟩ : ∃ la, Rp.lastOf (l.take i) = la := ⟨_, rfl⟩
        rw [hlae] at hso hla hl0 hprev
        rw [raceOk_in la x hla.1] at hso
        rw [hso] at hall
        obtain ⟨pl, fi, se, fw, sw⟩ := x
        simp only at hso hall
        have hr' : wr.rangeAt blk (off + i * 5) (rcC ⟨pl, fi, se, fw, sw⟩) := fun j v hv => ((K1.out.trans (HK.out.mono (fun b h => Nat.lt_of_lt_of_le h K1.out.size))).cell (x := ⟨blk, off + i * 5 + j, none⟩) hb).trans (hr j v hv)
        have HR := hid hr'
        have hi5x := rc_size ⟨pl, fi, se, fw, sw⟩
        have h15x := rc_one ⟨pl, fi, se, fw, sw⟩
        have HPREV := hid hprev
        have HSO := hid (And.intro hso hall)
        have HLA := hid (And.intro hla hl0)
        have HBB := hid hb
        clear hso hall hr hr' hx hxx hlae ec2 eb2 ha hb hla hl0 hprev hok hlt'
        go_upto_region 17 with (first | refine wpList_load_mid rfl 114 (.tmp 76) rfl blk (off + i * 5) rfl (rcC ⟨pl, fi, se, fw, sw⟩) _ HR.out Tryd.underlying114 rfl hi5x ?_ | refine wpList_store_row rfl 114 (.tmp 5) (.tmp 77) rfl wr.heap.size (rcC ⟨pl, fi, se, fw, sw⟩).toArray rfl rfl 114 _ (heap_alloc_new wr _) hi5x rfl h15x ?_)
        refine wp_world (fun w2 => Keep (· < wr.heap.size) wr w2 ∧ w2.heap[wr.heap.size]? = some (.cells (rcC ⟨pl, fi, se, fw, sw⟩).toArray 114 (0, 0))) ⟨((Keep.refl _ _).alloc _ (fun _ h => h)).setRow _ (by simp), heap_setRow (heap_alloc_new wr _) _⟩ ?_
        rintro w2 ⟨k2, X2⟩
        have x0 : w2.cell? ⟨wr.heap.size, 0, none⟩ = some (.int .i64 pl) := cell_at X2 0
        have x1 : w2.cell? ⟨wr.heap.size, 1, none⟩ = some (.int .i64 fi) := cell_at X2 1
        have x2 : w2.cell? ⟨wr.heap.size, 2, none⟩ = some (.int .i64 se) := cell_at X2 2
        have x3 : w2.cell? ⟨wr.heap.size, 3, none⟩ = some (.bool fw) := cell_at X2 3
        have x4 : w2.cell? ⟨wr.heap.size, 4, none⟩ = some (.bool sw) := cell_at X2 4
        have K2 := hid (HK.out.trans (k2.mono (fun b h => Nat.lt_of_lt_of_le h HK.out.size)))
        have s6 := (SS.out w2 K2.out).2
        have HP2 := hid (show ∀ k, i = k + 1 → w2.cell? ⟨blk, off + k * 5, none⟩ = some (.int .i64 la) from fun k hk => (k2.cell (x := ⟨blk, off + k * 5, none⟩) (Nat.lt_of_lt_of_le HBB.out (Nat.le_trans K1.out.size HK.out.size))).trans (HPREV.out k hk))
        obtain ⟨X, hX⟩ : ∃ b, wr.heap.size = b := ⟨_, rfl⟩
        rw [hX] at x0 x1 x2 x3 x4 ⊢
        clear k2 X2 hX h15x hi5x HR HPREV
        obtain ⟨c1, h1⟩ : ∃ b, (decide (0 ≤ pl) && decide (pl ≤ 127)) = b := ⟨_, rfl⟩
        obtain ⟨c2, h2⟩ : ∃ b, decide (la < pl) = b := ⟨_, rfl⟩
        obtain ⟨c3, h3⟩ : ∃ b, (decide (0 ≤ fi) && decide (fi ≤ 8192)) = b := ⟨_, rfl⟩
        obtain ⟨c4, h4⟩ : ∃ b, (decide (0 ≤ se) && decide (se ≤ 8192)) = b := ⟨_, rfl⟩
        rw [h1, h2, h3, h4] at HSO
        have h2' : decide (pl ≤ la) = !c2 := by rw [← h2]; by_cases h : la < pl <;> simp [h] <;> omega
        have h12 := hid (show i = 0 → c1 = true → c2 = true from fun h0 hc => by
          rw [hc] at h1
          rw [← h2]
          have := HLA.out.2 h0
          simp at h1 ⊢
          omega)
        have W5 := hid (fun w0 => (in20_is pl 0 127 c1 w0 h1).mono fun _ _ ⟨q1, q2⟩ => And.intro q1 q2.symm)
        have W6 := hid (fun w0 => (in20_is fi 0 8192 c3 w0 h3).mono fun _ _ ⟨q1, q2⟩ => And.intro q1 q2.symm)
        have W7 := hid (fun w0 => (in20_is se 0 8192 c4 w0 h4).mono fun _ _ ⟨q1, q2⟩ => And.intro q1 q2.symm)
        clear h1 h2 h3 h4 HLA
        obtain ⟨rb, hrb⟩ : ∃ b, (((((c1 && c2) && c3) && c4)) && (fw || sw)) = b := ⟨_, rfl⟩
        have HRB := hid hrb
        rw [hrb] at HSO
        clear hrb
        try simp only [Act.put]
        go_cut [119] (fun s119 wx => s119 = .bool (!rb) ∧ ∃ m, wx = w2.drewN m)
        case first =>
          cases c1
          case' true =>
            cases c2
            case' true =>
              cases c3
              case' true =>
                cases c4
                case' true =>
                  cases fw
                  case' false => cases sw
          all_goals (rcases i with _ | k)
          all_goals (first | (exfalso; have hh := h12.out rfl rfl; simp at hh; done) | skip)
          all_goals (obtain rfl := HRB.out)
          all_goals (try (have hpk := HP2.out k rfl; have kN : (k : Int) < (N : Int) := by omega))
          all_goals (go_quiet ((go_at_call 57; first | (with_reducible refine Calls.quiet_of_same (W5.out _)) | (with_reducible refine Calls.quiet_of_same (W6.out _)) | (with_reducible refine Calls.quiet_of_same (W7.out _)))); go_wp2_with fail; go_meet; case rel => exact ⟨rfl, _, rfl⟩)
        case rest =>
          obtain ⟨rfl, m, rfl⟩ := hcut
          cases rb with
          | true =>
            go_wp2_with fail
            go_roundg (gk - 1)
            case measure => omega
            case rel => exact ⟨i + 1, by omega, by go_num, HSO.out.1, K2.out.drewN _⟩
          | false =>
            obtain rfl : oo = false := by rw [NOR2.out]; exact HSO.out.2 rfl
            have KE := hid (K1.out.trans ((K2.out.drewN m).mono (fun b h => Nat.lt_of_lt_of_le h K1.out.size)))
            go_wp2_with fail
            go_ret
            exact ⟨rfl, KE.out⟩
      · obtain rfl : N = i := by omega
        obtain rfl : oo = true := by
          rw [NOR2.out]
          rwa [List.take_of_length_le (l := l) (by rw [HN.out]; exact Nat.le_refl _)] at hok
        have KE := hid (K1.out.trans (HK.out.mono (fun b h => Nat.lt_of_lt_of_le h K1.out.size)))
        clear hok hlt
        go_wp2_with fail
        go_ret
        exact ⟨rfl, KE.out⟩
  have hcase : o = 3 ∨ (o = 1 ∨ o = 2 ∨ o = 4) ∨ (o ≠ 1 ∧ o ≠ 2 ∧ o ≠ 3 ∧ o ≠ 4) := by omega
  rcases hcase with rfl | ho | ho4
  case' inl =>
    have hE : Rp.endOk 3 f g n at_ = (((decide (1 ≤ f) && decide (f ≤ 7)) && (decide (0 ≤ g) && decide (g ≤ 7)) && (decide (0 ≤ at_) && decide (at_ ≤ 8192))) && (decide (n = 0) || decide (f = 7))) := by unfold Rp.endOk; rw [if_pos rfl]
    rw [hE] at HE
    obtain ⟨b1, h1⟩ : ∃ b, (decide (1 ≤ f) && decide (f ≤ 7)) = b := ⟨_, rfl⟩
    obtain ⟨b2, h2⟩ : ∃ b, (decide (0 ≤ g) && decide (g ≤ 7)) = b := ⟨_, rfl⟩
    obtain ⟨b3, h3⟩ : ∃ b, (decide (0 ≤ at_) && decide (at_ ≤ 8192)) = b := ⟨_, rfl⟩
    rw [h1, h2, h3] at HE
    have W1 := hid (fun w0 => in20_is f 1 7 b1 w0 h1)
    have W2 := hid (fun w0 => in20_is g 0 7 b2 w0 h2)
    have W3 := hid (fun w0 => in20_is at_ 0 8192 b3 w0 h3)
    clear hE h1 h2 h3
    by_cases hf : f = 7
    case' pos =>
      have f7 : (f != 7) = false := by simp [hf]
      rw [decide_eq_true hf] at HE
      clear hf
    case' neg =>
      have f7 : (f != 7) = true := by simp [hf]
      rw [decide_eq_false hf] at HE
      clear hf
      by_cases hn : n = 0
      case' pos =>
        have n0 : (n != 0) = false := by simp [hn]
        rw [decide_eq_true hn] at HE
        clear hn
      case' neg =>
        have n0 : (n != 0) = true := by simp [hn]
        rw [decide_eq_false hn] at HE
        clear hn
    all_goals (cases b1; case' true => (cases b2; case' true => cases b3))
    all_goals cases eb
    all_goals (first | (exfalso; have hh := HE.out; simp at hh; done) | skip)
  case' inr.inr =>
    obtain ⟨n1, n2, n3, n4⟩ := ho4
    have q1 : (o == 1) = false := by simp [n1]
    have q2 : (o == 2) = false := by simp [n2]
    have q3 : (o == 3) = false := by simp [n3]
    have q4 : (o == 4) = false := by simp [n4]
    obtain rfl : false = eb := by
      rw [← HE.out]
      unfold Rp.endOk
      rw [if_neg n3]
      have : (decide (1 ≤ o) && decide (o ≤ 4)) = false := by simp; omega
      rw [this]; rfl
    clear n1 n2 n3 n4
  case' inr.inl =>
    have q3 : (o == 3) = false := by simp; omega
    have HC := hid (show ((o == 1) || (o == 2) || (o == 4)) = true by simp; omega)
    have hE : Rp.endOk o f g n at_ = (decide (f = 0) && decide (g = 0) && decide (n = 0) && decide (at_ = 0)) := by
      unfold Rp.endOk
      rw [if_neg (by omega)]
      have : (decide (1 ≤ o) && decide (o ≤ 4)) = true := by simp; omega
      rw [this]; rfl
    rw [hE] at HE
    clear hE ho
    have nb : ∀ x : Int, decide (x = 0) = !(x != 0) := fun x => by by_cases h : x = 0 <;> simp [h]
    rw [nb f, nb g, nb n, nb at_] at HE
    clear nb
    obtain ⟨c1, q1⟩ : ∃ b, (o == 1) = b := ⟨_, rfl⟩
    obtain ⟨c2, q2⟩ : ∃ b, (o == 2) = b := ⟨_, rfl⟩
    obtain ⟨c4, q4⟩ : ∃ b, (o == 4) = b := ⟨_, rfl⟩
    rw [q1, q2, q4] at HC
    obtain ⟨b1, h1⟩ : ∃ b, (f != 0) = b := ⟨_, rfl⟩
    obtain ⟨b2, h2⟩ : ∃ b, (g != 0) = b := ⟨_, rfl⟩
    obtain ⟨b3, h3⟩ : ∃ b, (n != 0) = b := ⟨_, rfl⟩
    obtain ⟨b4, h4⟩ : ∃ b, (at_ != 0) = b := ⟨_, rfl⟩
    rw [h1, h2, h3, h4] at HE
    cases c1
    case' false => (cases c2; case' false => cases c4)
    all_goals (first | (exfalso; have hh := HC.out; simp at hh; done) | skip)
    all_goals (cases b1; case' false => (cases b2; case' false => (cases b3; case' false => cases b4)))
    all_goals cases eb
    all_goals (first | (exfalso; have hh := HE.out; simp at hh; done) | skip)
  all_goals (try simp only [Act.put])
  all_goals (first | (obtain rfl : oo = false := NO.out rfl; clear HOK SS; go_wp2_with (go_at_call 57; first | (with_reducible refine (W1.out _).mono ?_; rintro e wq ⟨rfl, rfl⟩) | (with_reducible refine (W2.out _).mono ?_; rintro e wq ⟨rfl, rfl⟩) | (with_reducible refine (W3.out _).mono ?_; rintro e wq ⟨rfl, rfl⟩)); go_ret; exact ⟨rfl, K1.out⟩) | skip)
  all_goals (go_wp2_with (go_at_call 57; first | (with_reducible refine (W1.out _).mono ?_; rintro e wq ⟨rfl, rfl⟩) | (with_reducible refine (W2.out _).mono ?_; rintro e wq ⟨rfl, rfl⟩) | (with_reducible refine (W3.out _).mono ?_; rintro e wq ⟨rfl, rfl⟩)))
  all_goals go_meet
  all_goals (first | exact ⟨rfl, rfl⟩ | exact ⟨rfl, trivial⟩)
end Go.Proofs.YtnpneippahdigaaDoor