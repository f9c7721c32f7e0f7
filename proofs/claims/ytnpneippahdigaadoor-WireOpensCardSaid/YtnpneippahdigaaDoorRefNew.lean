/-
  Step by step: the reference's 'New': the words that digests need, by the primes.
-/
import Derived.Test.YtnpneippahdigaaDoorFrac
import Derived.Test.YtnpneippahdigaaDoorSha
import Derived.Test.YtnpneippahdigaaDoorMem
import Derived.Test.YtnpneippahdigaaDoorTail
import Derived.Test.YtnpneippahdigaaDoorTxt
import Derived.BigQuiet
import Derived.Deep.QuietTactic
namespace Go.Proofs.YtnpneippahdigaaDoor
open Go.RowKit Go.Proofs.Mem


/-- the reference's words lie at block b. -/
def WordsAt (w : World) (b : Nat) (st tn : List Nat) : Prop := PairAt w 140 142 b (ints .u32 st) (ints .u32 tn)

set_option maxRecDepth 100000 in
set_option maxHeartbeats 1000000 in
theorem refnew_walk (w : World) :
    Calls Tryd.prog 39 #[] w fun e w' => e = .returned (.pointer (some ⟨w.heap.size, 0, none⟩)) ∧ Keep (· < w.heap.size) w w' ∧ WordsAt w' w.heap.size Sha.St.new.ws Sha.turns := by
  go_enter Tryd.func39, Tryd.ntmps39
  go_wp2_with fail
  go_loopg [2] 310 (fun k s2 wr => ∃ p : Nat, s2 = .int .u64 (p : Int) ∧ 2 ≤ p ∧ k + p = 312 ∧ WordsAt wr w.heap.size (Ref3.starts p) (Ref3.turnsOf p) ∧ Keep (· < w.heap.size) w wr)
  case atStart => exact ⟨2, rfl, by decide, rfl, ⟨_, _, heap_alloc_new w _, Row.nil _ _, Row.nil _ _, (fun k hk => by cases hk), (fun k hk => by cases hk)⟩, (Keep.refl _ _).alloc _ (fun _ h => h)⟩
  case round =>
    obtain ⟨p, rfl, hp2, hpk, hW, hK⟩ := hrel
    have HW := hid hW
    have HK := hid hK
    clear hW hK
    obtain ⟨sv, tv, hheap, hs, ht, hd1, hd2⟩ := HW.out
    obtain ⟨a1, c1, rfl⟩ := hs.form
    obtain ⟨a2, c2, rfl⟩ := ht.form
    simp only [ints_length] at hheap hs ht hd1 hd2
    obtain ⟨m, hm⟩ : ∃ m, (Ref3.starts p).length = m := ⟨_, rfl⟩
    obtain ⟨n, hn⟩ : ∃ n, (Ref3.turnsOf p).length = n := ⟨_, rfl⟩
    rw [hm, hn] at hheap hd1
    rw [hm] at hs
    rw [hn] at ht hd2
    have c0 : wr.cell? ⟨w.heap.size, 0, none⟩ = some (.slice a1 m c1) := by rw [cell_at hheap]; rfl
    have c1' : wr.cell? ⟨w.heap.size, 1, none⟩ = some (.slice a2 n c2) := by rw [cell_at hheap]; rfl
    have HS := hid hs
    have HT := hid ht
    have HD := hid (And.intro hd1 hd2)
    have HH := hid hheap
    have HM := hid hm
    have HN := hid hn
    clear hs ht hd1 hd2 hheap hm hn
    by_cases h64 : 64 ≤ n
    · obtain rfl : p = 312 := Ref3.first_all p (by omega) (by have := HN.out; rw [Ref3.turnsOf, List.length_map] at this; omega)
      have t1 : decide ((n : Int) < 64) = false := by simp; omega
      go_wp2_with fail
      go_ret
      exact ⟨rfl, HK.out, by rw [← Ref3.starts_all, ← Ref3.turns_all]; exact HW.out⟩
    · have hp : p < 312 := by
        rcases Nat.lt_or_ge p 312 with h | h
        · exact h
        · exfalso
          obtain rfl : p = 312 := by omega
          exact h64 (by rw [← HN.out, Ref3.turnsOf, List.length_map, Ref3.all_len]; decide)
      obtain ⟨k', rfl⟩ : ∃ k', gk = k' + 1 := ⟨gk - 1, by omega⟩
      have t1 : decide ((n : Int) < 64) = true := by simp; omega
      go_wp2_with fail
      obtain ⟨wo, rfl⟩ : ∃ wo : World, wo = wr := ⟨_, rfl⟩
      obtain ⟨gk0, hgk0⟩ : ∃ g, k' = g := ⟨_, rfl⟩
      go_loopg [3, 4] (p - 1) (fun k s3 s4 wr => ∃ (q : Nat) (fl : Bool), s4 = .int .u64 (q : Int) ∧ s3 = .bool fl ∧ Hid (fl = decide (∀ q', q' < q → 2 ≤ q' → p % q' ≠ 0)) ∧ 2 ≤ q ∧ k + q = p + 1 ∧ Hid (∀ q', q' < q → 2 ≤ q' → q' * q' ≤ p) ∧ wr = wo)
      case atStart => exact ⟨2, true, rfl, rfl, (decide_eq_true (fun q' h1 h2 => absurd h1 (by omega))).symm, by decide, by omega, fun q' h1 h2 => absurd h1 (by omega), rfl⟩
      case round =>
        obtain ⟨q, fl, rfl, rfl, hfl, h2q, hkq, hall, rfl⟩ := hrel
        obtain ⟨qq, hqq⟩ : ∃ qq, q * q = qq := ⟨_, rfl⟩
        have hqle : q ≤ 312 := by omega
        have hqq1 : qq ≤ 312 * 312 := by rw [← hqq]; exact Nat.mul_le_mul hqle hqle
        have e1 : (q : Int) * (q : Int) = (qq : Int) := by rw [← Int.natCast_mul, hqq]
        have hqqq : q ≤ qq := by rw [← hqq]; exact Nat.le_mul_of_pos_left _ (by omega)
        have HQ := hid hqq
        clear hqq
        by_cases hq : qq ≤ p
        · have t2 : decide ((qq : Int) ≤ (p : Int)) = true := by simp; omega
          obtain ⟨j, rfl⟩ : ∃ j, gk = j + 1 := ⟨gk - 1, by omega⟩
          obtain ⟨r, hr⟩ : ∃ r, p % q = r := ⟨_, rfl⟩
          have e2 : (p : Int) % (q : Int) = (r : Int) := by rw [← hr, Int.natCast_emod]
          have hall' : ∀ q', q' < q + 1 → 2 ≤ q' → q' * q' ≤ p := by
            intro q' h1 h2
            rcases Nat.lt_or_eq_of_le (Nat.le_of_lt_succ h1) with h | h
            · exact hall.out q' h h2
            · rw [h, HQ.out]; exact hq
          have HA := hid hall'
          have HR := hid hr
          clear hall' hr hall
          by_cases hr0 : r = 0
          · subst hr0
            go_wp2_with fail
            go_roundg j
            case measure => omega
            case rel =>
              exact ⟨q + 1, false, by simp, rfl, (decide_eq_false (fun h => h q (by omega) h2q HR.out)).symm, by omega, by omega, HA, rfl⟩
          · have t3 : ((r : Int) == 0) = false := by simp; omega
            go_wp2_with fail
            go_roundg j
            case measure => omega
            case rel =>
              refine ⟨q + 1, fl, by simp, rfl, ?_, by omega, by omega, HA, rfl⟩
              refine hfl.out.trans (decide_eq_decide.2 ⟨fun h q' h1 h2 => ?_, fun h q' h1 h2 => h q' (by omega) h2⟩)
              rcases Nat.lt_or_eq_of_le (Nat.le_of_lt_succ h1) with h3 | h3
              · exact h q' h3 h2
              · rw [h3, HR.out]; exact hr0
        · have t2 : decide ((qq : Int) ≤ (p : Int)) = false := by simp; omega
          have hP : fl = Ref3.isP p := by
            rw [hfl.out]
            unfold Ref3.isP
            apply decide_eq_decide.2
            constructor
            · intro h q' h1 h2 h3
              refine h q' ?_ h2
              rcases Nat.lt_or_ge q' q with h4 | h4
              · exact h4
              · exfalso
                have := Nat.mul_le_mul h4 h4
                rw [HQ.out] at this
                omega
            · intro h q' h1 h2
              refine h q' ?_ h2 (hall.out q' h1 h2)
              have := hall.out q' h1 h2
              have h5 : q' * 2 ≤ q' * q' := Nat.mul_le_mul_left _ h2
              omega
          have HP := hid hP
          clear hP hfl hall
          have w1 : IntKind.u64.wrap ((p : Int) + 1) = ((p + 1 : Nat) : Int) := by rw [wrapN (p + 1) (by omega) |>.symm]; rfl
          cases fl with
          | false =>
            have e3 : Ref3.primes (p + 1) = Ref3.primes p := by
              show Ref3.primes p ++ (if decide (2 ≤ p) && Ref3.isP p then [p] else []) = _
              rw [← HP.out]; simp
            have HE := hid e3
            clear e3
            go_wp2_with fail
            go_roundg gk0
            case measure => omega
            case rel =>
              refine ⟨p + 1, by simp, by omega, by omega, ?_, HK.out⟩
              rw [show Ref3.starts (p + 1) = Ref3.starts p by unfold Ref3.starts; rw [HE.out], show Ref3.turnsOf (p + 1) = Ref3.turnsOf p by unfold Ref3.turnsOf; rw [HE.out]]
              exact HW.out
          | true =>
            have e3 : Ref3.primes (p + 1) = Ref3.primes p ++ [p] := by
              show Ref3.primes p ++ (if decide (2 ≤ p) && Ref3.isP p then [p] else []) = _
              rw [← HP.out]; simp [hp2]
            have HE := hid e3
            clear e3
            obtain ⟨i0, hi0, hz0, hs0, hb0⟩ := info_parts (show (Tryd.prog.info? 142).map (fun i => (i.zero, i.size, i.bytes)) = some (some (.int .u32 0), 1, 4) by kernel_rfl)
            go_upto_if 33 with fail
            go_cut [] (fun wx => WordsAt wx w.heap.size (Ref3.starts (p + 1)) (Ref3.turnsOf p) ∧ Keep (· < w.heap.size) w wx)
            case first =>
              by_cases h8 : m < 8
              · have t8 : decide ((m : Int) < 8) = true := by simp; omega
                go_wp2_with fail
                have hsv := HS.out
                have hfr : ∀ wx : World, wx.heap[w.heap.size]? = wr.heap[w.heap.size]? → wx.frozen? ⟨w.heap.size, 0, none⟩ = false := fun wx h => frozen_at (h.trans HH.out) 0
                refine Txt.wp_region_text [true, true, true, true, true, true, false, false, false, true, true, false] (fun wx => wx.cell? ⟨w.heap.size, 0, none⟩ = some (.slice a1 m c1)) (by kernel_rfl) (by kernel_rfl) c0 ?_
                iterate 4 (refine Txt.text_free rfl (fun K hK => ?_); go_simp; refine hK _ ?_; clear hK K)
                refine Txt.text_held (.slice a1 m c1) rfl (fun w0 h0 => by go_simp) (fun K hK => hK _ ?_)
                refine Txt.text_free rfl (fun K hK => ?_); go_simp; refine hK _ ?_; clear hK K
                refine Txt.text_chain rfl (fun K hK => ?_)
                go_simp
                refine (fraction_walk p 2 (by omega) (.inl rfl) _).mono ?_
                rintro e w2 ⟨rfl, rfl⟩
                refine hK _ _ ⟨c0, ?_⟩
                clear hK K
                refine Txt.text_chain rfl (fun K hK => ?_)
                go_simp
                have hbl : w.heap.size < wr.heap.size := (Array.getElem?_eq_some_iff.1 HH.out).1
                have hsv := HS.out
                have HE2 := hid (show Ref3.starts (p + 1) = Ref3.starts p ++ [Ref3.frac p 2] by
                  have hl := HM.out
                  unfold Ref3.starts at hl ⊢
                  rw [HE.out, List.map_append]
                  rw [List.length_take, List.length_map] at hl
                  rw [List.take_of_length_le (by simp; omega), List.take_of_length_le (by simp; omega)]
                  rfl)
                refine hK _ _ ⟨?_, ?_⟩
                · exact (((Keep.refl (· < wr.heap.size) wr).alloc _ (fun _ h => h)).cell hbl).trans c0
                clear hK K
                refine Txt.text_app rfl (.tmp 38) (.tmp 41) 138 138 rfl _ (append_at_one (P := Tryd.prog) 138 142 i0 (.int .u32 0) 4 Tryd.underlying138 hi0 hz0 hs0 hb0 rfl wr.drew _ (.slice a1 m c1) (.int .u32 (Ref3.frac p 2 : Nat)) (ints .u32 (Ref3.starts p)) HS.out rfl (by rw [ints_length, HM.out]; omega) (by rw [ints_length, HM.out]; omega)) ?_
                rintro v1 w3 ⟨r3, k3, o3⟩
                obtain ⟨av, cv, rfl⟩ := r3.form
                have hpb : w.heap.size < wr.heap.size ∧ (Value.slice a1 m c1).ownBlock ≠ some w.heap.size := ⟨hbl, fun h => by have := (HD.out.1 _ h).1; omega⟩
                have hc3 : w3.cell? ⟨w.heap.size, 0, none⟩ = some (.slice a1 m c1) := (k3.cell (x := ⟨w.heap.size, 0, none⟩) hpb).trans c0
                have hf3 : w3.frozen? ⟨w.heap.size, 0, none⟩ = false := (k3.frozen (x := ⟨w.heap.size, 0, none⟩) hpb).trans (frozen_at HH.out 0)
                have H3 := hid (pair_first (w := wr.drew) HH.out HT.out HD.out.1 HD.out.2 r3 k3 o3)
                have HK3 := hid (HK.out.drew.trans (k3.mono (fun k h => ⟨Nat.lt_trans h hbl, fun h' => by have := (HD.out.1 _ h').1; omega⟩)))
                clear r3 k3 o3
                refine ⟨hc3, ?_⟩
                iterate 2 (refine Txt.text_free rfl (fun K hK => ?_); go_simp; refine hK _ ?_; clear hK K)
                refine Txt.text_last rfl (fun K hK => ?_)
                go_simp
                refine hK _ _ ?_
                clear hK K
                go_wp2_with fail
                go_meet
                case rel =>
                  refine ⟨?_, HK3.out.setCell _ (by simp)⟩
                  have := H3.out
                  have e : ints .u32 (Ref3.starts (p + 1)) = ints .u32 (Ref3.starts p) ++ [Value.int .u32 (Ref3.frac p 2 : Nat)] := by rw [HE2.out, ints_append]; rfl
                  unfold WordsAt
                  rw [e]
                  rw [List.length_append] at this
                  exact this
              · have t8 : decide ((m : Int) < 8) = false := by simp; omega
                have HE2 := hid (show Ref3.starts (p + 1) = Ref3.starts p by
                  have hl := HM.out
                  unfold Ref3.starts at hl ⊢
                  rw [HE.out, List.map_append, List.take_append_of_le_length (by rw [List.length_take] at hl; omega)])
                go_wp2_with fail
                go_meet
                case rel => exact ⟨by rw [HE2.out]; exact HW.out, HK.out⟩
            case rest =>
              clear c0 c1' HH HS HT HD HW HK
              have HK := hid hcut.2
              obtain ⟨sv, tv, hheap, hs, ht, hd1, hd2⟩ := hcut.1
              clear hcut
              obtain ⟨a1, c1, rfl⟩ := hs.form
              obtain ⟨a2, c2, rfl⟩ := ht.form
              simp only [ints_length] at hheap hs ht hd1 hd2
              obtain ⟨m', hm'⟩ : ∃ m, (Ref3.starts (p + 1)).length = m := ⟨_, rfl⟩
              rw [hm', HN.out] at hheap hd1
              rw [hm'] at hs
              rw [HN.out] at ht hd2
              have c1' : wc.cell? ⟨w.heap.size, 1, none⟩ = some (.slice a2 n c2) := by rw [cell_at hheap]; rfl
              have HS := hid hs
              have HT := hid ht
              have HD := hid (And.intro hd1 hd2)
              have HH := hid hheap
              clear hs ht hd1 hd2 hheap hm'
              have hbl : w.heap.size < wc.heap.size := (Array.getElem?_eq_some_iff.1 HH.out).1
              have HE2 := hid (show Ref3.turnsOf (p + 1) = Ref3.turnsOf p ++ [Ref3.frac p 3] by
                unfold Ref3.turnsOf
                rw [HE.out, List.map_append]
                rfl)
              go_wp2_with fail
              refine Txt.wp_region_text [true, true, true, true, true, true, false, false, false, true, true, false] (fun wx => wx.cell? ⟨w.heap.size, 1, none⟩ = some (.slice a2 n c2)) (by kernel_rfl) (by kernel_rfl) c1' ?_
              iterate 4 (refine Txt.text_free rfl (fun K hK => ?_); go_simp; refine hK _ ?_; clear hK K)
              refine Txt.text_held (.slice a2 n c2) rfl (fun w0 h0 => by go_simp) (fun K hK => hK _ ?_)
              refine Txt.text_free rfl (fun K hK => ?_); go_simp; refine hK _ ?_; clear hK K
              refine Txt.text_chain rfl (fun K hK => ?_)
              go_simp
              refine (fraction_walk p 3 (by omega) (.inr rfl) _).mono ?_
              rintro e w2 ⟨rfl, rfl⟩
              refine hK _ _ ⟨c1', ?_⟩
              clear hK K
              refine Txt.text_chain rfl (fun K hK => ?_)
              go_simp
              refine hK _ _ ⟨?_, ?_⟩
              · exact (((Keep.refl (· < wc.heap.size) wc).alloc _ (fun _ h => h)).cell hbl).trans c1'
              clear hK K
              refine Txt.text_app rfl (.tmp 49) (.tmp 52) 138 138 rfl _ (append_at_one (P := Tryd.prog) 138 142 i0 (.int .u32 0) 4 Tryd.underlying138 hi0 hz0 hs0 hb0 rfl wc.drew _ (.slice a2 n c2) (.int .u32 (Ref3.frac p 3 : Nat)) (ints .u32 (Ref3.turnsOf p)) HT.out rfl (by rw [ints_length, HN.out]; omega) (by rw [ints_length, HN.out]; omega)) ?_
              rintro v1 w3 ⟨r3, k3, o3⟩
              obtain ⟨av, cv, rfl⟩ := r3.form
              have hpb : w.heap.size < wc.heap.size ∧ (Value.slice a2 n c2).ownBlock ≠ some w.heap.size := ⟨hbl, fun h => by have := HD.out.2 _ h; omega⟩
              have hc3 : w3.cell? ⟨w.heap.size, 1, none⟩ = some (.slice a2 n c2) := (k3.cell (x := ⟨w.heap.size, 1, none⟩) hpb).trans c1'
              have hf3 : w3.frozen? ⟨w.heap.size, 1, none⟩ = false := (k3.frozen (x := ⟨w.heap.size, 1, none⟩) hpb).trans (frozen_at HH.out 1)
              have H3 := hid (pair_second (w := wc.drew) HH.out HS.out HD.out.1 HD.out.2 r3 k3 o3)
              have HK3 := hid (HK.out.drew.trans (k3.mono (fun k h => ⟨Nat.lt_trans h hbl, fun h' => by have := HD.out.2 _ h'; omega⟩)))
              clear r3 k3 o3
              refine ⟨hc3, ?_⟩
              iterate 2 (refine Txt.text_free rfl (fun K hK => ?_); go_simp; refine hK _ ?_; clear hK K)
              refine Txt.text_last rfl (fun K hK => ?_)
              go_simp
              refine hK _ _ ?_
              clear hK K
              go_wp2_with fail
              go_roundg gk0
              case measure => omega
              case rel =>
                refine ⟨p + 1, by simp, by omega, by omega, ?_, HK3.out.setCell _ (by simp)⟩
                have := H3.out
                have e : ints .u32 (Ref3.turnsOf (p + 1)) = ints .u32 (Ref3.turnsOf p) ++ [Value.int .u32 (Ref3.frac p 3 : Nat)] := by rw [HE2.out, ints_append]; rfl
                unfold WordsAt
                rw [e]
                rw [List.length_append] at this
                exact this
end Go.Proofs.YtnpneippahdigaaDoor
