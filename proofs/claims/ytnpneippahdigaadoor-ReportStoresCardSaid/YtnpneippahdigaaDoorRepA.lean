/-
  Step by step: 'within', 'ended', 'Check' of package report.
-/
import Derived.Test.YtnpneippahdigaaDoorRepP
import Derived.Test.YtnpneippahdigaaDoorTxt4
import Derived.Laws.Rows
import Derived.Test.YtnpneippahdigaaDoorLoadIf
import Derived.Laws.StructEq
namespace Go.Proofs.YtnpneippahdigaaDoor
open Go.RowKit Go.Proofs.Mem Go.Proofs.Txt

theorem within_walk (n a b : Int) (w : World) : Calls Tryd.prog 59 #[.int .i64 n, .int .i64 a, .int .i64 b] w fun e w' => e = .returned (.bool (decide (a ≤ n) && decide (n ≤ b))) ∧ w = w' := by
  by_cases h1 : a ≤ n
  · have t1 : decide (a ≤ n) = true := by simpa using h1
    rw [t1]
    by_cases h2 : n ≤ b
    · have t2 : decide (n ≤ b) = true := by simpa using h2
      rw [t2]
      go_enter Tryd.func59, Tryd.ntmps59
      go_wp2_with fail
      go_ret
      exact ⟨rfl, rfl⟩
    · have t2 : decide (n ≤ b) = false := by simpa using h2
      rw [t2]
      go_enter Tryd.func59, Tryd.ntmps59
      go_wp2_with fail
      go_ret
      exact ⟨rfl, rfl⟩
  · have t1 : decide (a ≤ n) = false := by simpa using h1
    rw [t1]
    go_enter Tryd.func59, Tryd.ntmps59
    go_wp2_with fail
    go_ret
    exact ⟨rfl, rfl⟩
/-- the same, its value under a name. -/
theorem within_is (n a b : Int) (t : Bool) (w : World) (h : (decide (a ≤ n) && decide (n ≤ b)) = t) : Calls Tryd.prog 59 #[.int .i64 n, .int .i64 a, .int .i64 b] w fun e w' => e = .returned (.bool t) ∧ w = w' := by
  rw [← h]; exact within_walk n a b w

/-- an end's cells. -/
def endC (o f g n at_ : Int) : List Value := [.int .i64 o, .int .i64 f, .int .i64 g, .int .i64 n, .int .i64 at_]
theorem end_size (o f g n at_ : Int) : (Tryd.prog.info? 23).map (·.size) = some (endC o f g n at_).length := by
  show _ = some 5
  kernel_rfl
theorem end_stood : Tryd.prog.stoodInHeld 23 = false := by kernel_rfl
theorem end_guard : Tryd.prog.eqGuardType Tryd.prog.depth 23 = false := by kernel_rfl
theorem end_fields : (Tryd.prog.fieldsOf 23).toList.map (fun f => (f.name == "_", f.type, f.offset)) = [(false, 3, 0), (false, 3, 1), (false, 3, 2), (false, 3, 3), (false, 3, 4)] := by kernel_rfl
theorem end_under : Tryd.prog.underlying 23 = some (.struct (Tryd.prog.fieldsOf 23)) := by
  unfold Program.fieldsOf
  rw [Tryd.underlying23]
def endEq (o f g n at_ o' f' g' n' at' : Int) : Bool := o == o' && (f == f' && (g == g' && (n == n' && at_ == at')))
theorem eqF_end (w : World) (o f g n at_ o' f' g' n' at' : Int) : ∀ (fs : List Field), fs.map (fun f => (f.name == "_", f.type, f.offset)) = [(false, 3, 0), (false, 3, 1), (false, 3, 2), (false, 3, 3), (false, 3, 4)] →
    (Op.eqFields 9999 (endC o f g n at_).toArray (endC o' f' g' n' at').toArray fs).run Tryd.prog w = .ok (endEq o f g n at_ o' f' g' n' at') w
  | [f0, f1, f2, f3, f4], h => by
    simp only [List.map_cons, List.map_nil, List.cons.injEq, Prod.mk.injEq, and_true, beq_eq_false_iff_ne] at h
    obtain ⟨⟨n0, t0, o0⟩, ⟨n1, t1, o1⟩, ⟨n2, t2, o2⟩, ⟨n3, t3, o3⟩, n4, t4, o4⟩ := h
    have c1 : Tryd.prog.cellsOf 3 = 1 := by kernel_rfl
    have u1 := Tryd.underlying3
    simp only [Op.eqFields, n0, n1, n2, n3, n4, t0, t1, t2, t3, t4, o0, o1, o2, o3, o4, endC, ne_eq, not_false_eq_true, if_true, Sem.run_bind]
    unfold endEq
    go_simp
    by_cases h0 : o = o'
    · by_cases h1 : f = f'
      · by_cases h2 : g = g'
        · by_cases h3 : n = n'
          · by_cases h4 : at_ = at'
            · simp [h0, h1, h2, h3, h4]
            · simp [h0, h1, h2, h3, h4]
          · simp [h0, h1, h2, h3]
        · simp [h0, h1, h2]
      · simp [h0, h1]
    · simp [h0]
  | [], h => by simp at h
  | [_], h => by simp at h
  | [_, _], h => by simp at h
  | [_, _, _], h => by simp at h
  | [_, _, _, _], h => by simp at h
  | _ :: _ :: _ :: _ :: _ :: _ :: _, h => by simp at h
theorem eql_end (o f g n at_ o' f' g' n' at' : Int) (w : World) : (binOp .eql 23 (.agg (endC o f g n at_).toArray) (.agg (endC o' f' g' n' at').toArray)).run Tryd.prog w = .ok (.bool (endEq o f g n at_ o' f' g' n' at')) w := by
  rw [run_eql_struct, run_equalIn_agg w 9999 _ _ _ end_under end_stood, eqF_end w o f g n at_ o' f' g' n' at' _ end_fields]
  rfl

set_option maxRecDepth 100000 in
set_option maxHeartbeats 1000000 in
theorem ended_walk (o f g n at_ : Int) (w : World) : Calls Tryd.prog 58 #[.agg (endC o f g n at_).toArray] w fun e w' => e = .returned (.bool (Rp.endOk o f g n at_)) ∧ Keep (· < w.heap.size) w w' := by
  have hb := heap_alloc_new w (.cells (endC o f g n at_).toArray 23)
  have s0 : (w.alloc (.cells (endC o f g n at_).toArray 23)).cell? ⟨w.heap.size, 0, none⟩ = some (.int .i64 o) := cell_at hb 0
  have s1 : (w.alloc (.cells (endC o f g n at_).toArray 23)).cell? ⟨w.heap.size, 1, none⟩ = some (.int .i64 f) := cell_at hb 1
  have s2 : (w.alloc (.cells (endC o f g n at_).toArray 23)).cell? ⟨w.heap.size, 2, none⟩ = some (.int .i64 g) := cell_at hb 2
  have s3 : (w.alloc (.cells (endC o f g n at_).toArray 23)).cell? ⟨w.heap.size, 3, none⟩ = some (.int .i64 n) := cell_at hb 3
  have s4 : (w.alloc (.cells (endC o f g n at_).toArray 23)).cell? ⟨w.heap.size, 4, none⟩ = some (.int .i64 at_) := cell_at hb 4
  have HB := hid hb
  have K := hid (show Keep (· < w.heap.size) w (w.alloc (.cells (endC o f g n at_).toArray 23)) from (Keep.refl _ _).alloc _ (fun _ h => h))
  clear hb
  by_cases ho : o = 3
  · have e3 : (o != 3) = false := by simp [ho]
    have hE : Rp.endOk o f g n at_ = (((decide (1 ≤ f) && decide (f ≤ 7)) && (decide (0 ≤ g) && decide (g ≤ 7)) && (decide (0 ≤ at_) && decide (at_ ≤ 8192))) && (decide (n = 0) || decide (f = 7))) := by unfold Rp.endOk; rw [if_pos ho]
    rw [hE]
    obtain ⟨b1, h1⟩ : ∃ b, (decide (1 ≤ f) && decide (f ≤ 7)) = b := ⟨_, rfl⟩
    obtain ⟨b2, h2⟩ : ∃ b, (decide (0 ≤ g) && decide (g ≤ 7)) = b := ⟨_, rfl⟩
    obtain ⟨b3, h3⟩ : ∃ b, (decide (0 ≤ at_) && decide (at_ ≤ 8192)) = b := ⟨_, rfl⟩
    rw [h1, h2, h3]
    have W1 := hid (fun w0 => within_is f 1 7 b1 w0 h1)
    have W2 := hid (fun w0 => within_is g 0 7 b2 w0 h2)
    have W3 := hid (fun w0 => within_is at_ 0 8192 b3 w0 h3)
    clear ho hE h1 h2 h3
    cases b1 with
    | false =>
      go_enter Tryd.func58, Tryd.ntmps58
      go_wp2_with fail
      refine (W1.out _).mono ?_
      rintro e w1 ⟨rfl, rfl⟩
      go_wp2_with fail
      go_ret
      exact ⟨rfl, K.out⟩
    | true =>
      cases b2 with
      | false =>
        go_enter Tryd.func58, Tryd.ntmps58
        go_wp2_with fail
        refine (W1.out _).mono ?_
        rintro e w1 ⟨rfl, rfl⟩
        go_wp2_with fail
        refine (W2.out _).mono ?_
        rintro e w1 ⟨rfl, rfl⟩
        go_wp2_with fail
        go_ret
        exact ⟨rfl, K.out⟩
      | true =>
        cases b3 with
        | false =>
          go_enter Tryd.func58, Tryd.ntmps58
          go_wp2_with fail
          refine (W1.out _).mono ?_
          rintro e w1 ⟨rfl, rfl⟩
          go_wp2_with fail
          refine (W2.out _).mono ?_
          rintro e w1 ⟨rfl, rfl⟩
          go_wp2_with fail
          refine (W3.out _).mono ?_
          rintro e w1 ⟨rfl, rfl⟩
          go_wp2_with fail
          go_ret
          exact ⟨rfl, K.out⟩
        | true =>
          by_cases hn : n = 0
          · have e4 : (n == 0) = true := by simp [hn]
            rw [decide_eq_true hn]
            clear hn
            go_enter Tryd.func58, Tryd.ntmps58
            go_wp2_with fail
            refine (W1.out _).mono ?_
            rintro e w1 ⟨rfl, rfl⟩
            go_wp2_with fail
            refine (W2.out _).mono ?_
            rintro e w1 ⟨rfl, rfl⟩
            go_wp2_with fail
            refine (W3.out _).mono ?_
            rintro e w1 ⟨rfl, rfl⟩
            go_wp2_with fail
            go_ret
            exact ⟨rfl, K.out⟩
          · have e4 : (n == 0) = false := by simp [hn]
            have e5 : (f == 7) = decide (f = 7) := by by_cases h : f = 7 <;> simp [h]
            rw [decide_eq_false hn]
            obtain ⟨b5, h5⟩ : ∃ b, decide (f = 7) = b := ⟨_, rfl⟩
            rw [h5] at e5 ⊢
            clear hn h5
            go_enter Tryd.func58, Tryd.ntmps58
            go_wp2_with fail
            refine (W1.out _).mono ?_
            rintro e w1 ⟨rfl, rfl⟩
            go_wp2_with fail
            refine (W2.out _).mono ?_
            rintro e w1 ⟨rfl, rfl⟩
            go_wp2_with fail
            refine (W3.out _).mono ?_
            rintro e w1 ⟨rfl, rfl⟩
            go_wp2_with fail
            go_ret
            exact ⟨rfl, K.out⟩
  · have e3 : (o != 3) = true := by simp [ho]
    have hE : Rp.endOk o f g n at_ = ((decide (1 ≤ o) && decide (o ≤ 4)) && endEq o f g n at_ o 0 0 0 0) := by
      unfold Rp.endOk endEq
      rw [if_neg ho]
      by_cases h0 : f = 0 <;> by_cases h1 : g = 0 <;> by_cases h2 : n = 0 <;> by_cases h3 : at_ = 0 <;> simp [h0, h1, h2, h3]
    rw [hE]
    obtain ⟨b1, h1⟩ : ∃ b, (decide (1 ≤ o) && decide (o ≤ 4)) = b := ⟨_, rfl⟩
    obtain ⟨b2, h2⟩ : ∃ b, endEq o f g n at_ o 0 0 0 0 = b := ⟨_, rfl⟩
    rw [h1, h2]
    have W1 := hid (fun w0 => within_is o 1 4 b1 w0 h1)
    have heq : ∀ w0 : World, (binOp .eql 23 (.agg (endC o f g n at_).toArray) (.agg #[.int .i64 o, .int .i64 0, .int .i64 0, .int .i64 0, .int .i64 0])).run Tryd.prog w0 = .ok (.bool b2) w0 := by
      intro w0
      have := eql_end o f g n at_ o 0 0 0 0 w0
      rw [h2] at this
      exact this
    have ld := end_guard
    have hi := end_size o f g n at_
    clear ho hE h1 h2
    cases b1 with
    | false =>
      go_enter Tryd.func58, Tryd.ntmps58
      go_wp2_with fail
      refine (W1.out _).mono ?_
      rintro e w1 ⟨rfl, rfl⟩
      go_wp2_with fail
      go_ret
      exact ⟨rfl, K.out⟩
    | true =>
      go_enter Tryd.func58, Tryd.ntmps58
      go_wp2_with fail
      refine (W1.out _).mono ?_
      rintro e w1 ⟨rfl, rfl⟩
      go_wp2_with (refine wpList_load_row_if (by rfl) 23 (.tmp 1) rfl w.heap.size rfl 23 _ (0, 0) _ HB.out Tryd.underlying23 rfl (by rw [List.size_toArray]; exact hi) ?_)
      go_ret
      exact ⟨rfl, K.out⟩

/-- a race's cells. -/
def rcC (x : Rp.Race) : List Value := [.int .i64 x.pl, .int .i64 x.fi, .int .i64 x.se, .bool x.fw, .bool x.sw]
theorem rc_size (x : Rp.Race) : (Tryd.prog.info? 114).map (·.size) = some (rcC x).length := by
  show _ = some 5
  kernel_rfl
theorem rc_one (x : Rp.Race) : (rcC x).toArray.all (·.oneCell') = true := by simp [rcC, Value.oneCell']
/-- a report's cells. -/
def rpC (r : Rp.Rep) (v : Value) : List Value := endC r.o r.f r.g r.n r.at_ ++ [.int .i64 r.steps, v]
theorem rp_size (r : Rp.Rep) (v : Value) : (Tryd.prog.info? 26).map (·.size) = some (rpC r v).length := by
  show _ = some 7
  kernel_rfl
theorem rp_one (r : Rp.Rep) (a : Option Addr) (n c : Nat) : (rpC r (.slice a n c)).toArray.all (·.oneCell') = true := by simp [rpC, endC, Value.oneCell']
/-- a slice of races. -/
def RacesAt (w : World) (p : Nat → Prop) (v : Value) (l : List Rp.Race) : Prop :=
  ∃ a len cap, v = .slice a len cap ∧ len = l.length ∧ len ≤ cap ∧ cap ≤ maxLen ∧ ∀ i x, l[i]? = some x → ∃ blk off, a = some ⟨blk, off, none⟩ ∧ p blk ∧ w.rangeAt blk (off + i * 5) (rcC x)
theorem RacesAt.keep {w w' : World} {p q : Nat → Prop} {v : Value} {l : List Rp.Race} (h : RacesAt w p v l) (k : Keep q w w') (hq : ∀ b, p b → q b) : RacesAt w' p v l := by
  obtain ⟨a, len, cap, rfl, h1, h2, h3, h4⟩ := h
  refine ⟨a, len, cap, rfl, h1, h2, h3, fun i x hx => ?_⟩
  obtain ⟨blk, off, rfl, hp, hr⟩ := h4 i x hx
  exact ⟨blk, off, rfl, hp, fun j v hv => (k.cell (x := ⟨blk, off + i * 5 + j, none⟩) (hq _ hp)).trans (hr j v hv)⟩
theorem RacesAt.mono {w : World} {p q : Nat → Prop} {v : Value} {l : List Rp.Race} (h : RacesAt w p v l) (hq : ∀ b, p b → q b) : RacesAt w q v l := by
  obtain ⟨a, len, cap, rfl, h1, h2, h3, h4⟩ := h
  refine ⟨a, len, cap, rfl, h1, h2, h3, fun i x hx => ?_⟩
  obtain ⟨blk, off, rfl, hp, hr⟩ := h4 i x hx
  exact ⟨blk, off, rfl, hq _ hp, hr⟩
theorem RacesAt.lt {w : World} {p : Nat → Prop} {v : Value} {l : List Rp.Race} (h : RacesAt w p v l) : RacesAt w (fun b => b < w.heap.size ∧ p b) v l := by
  obtain ⟨a, len, cap, rfl, h1, h2, h3, h4⟩ := h
  refine ⟨a, len, cap, rfl, h1, h2, h3, fun i x hx => ?_⟩
  obtain ⟨blk, off, rfl, hp, hr⟩ := h4 i x hx
  have := hr 0 _ rfl
  exact ⟨blk, off, rfl, ⟨World.block_lt_of_cell? w _ this, hp⟩, hr⟩
theorem RacesAt.nil (w : World) (p : Nat → Prop) : RacesAt w p (.slice none 0 0) [] := ⟨none, 0, 0, rfl, rfl, Nat.le_refl _, Nat.zero_le _, fun i x h => by simp at h⟩
theorem RacesAt.form {w : World} {p : Nat → Prop} {v : Value} {l : List Rp.Race} (h : RacesAt w p v l) : ∃ a c, v = .slice a l.length c ∧ l.length ≤ c ∧ c ≤ 9223372036854775807 := by
  obtain ⟨a, len, cap, rfl, rfl, h2, h3, _⟩ := h
  exact ⟨a, cap, rfl, h2, by simpa [maxLen] using h3⟩

set_option maxRecDepth 100000 in
set_option maxHeartbeats 4000000 in
theorem check_walk (r : Rp.Rep) (v : Value) (ev : Value) (w : World) (p : Nat → Prop) (hv : RacesAt w p v r.races) (he : w.cell? ⟨2, 0, none⟩ = some ev) (hl : 2 < w.heap.size) :
    Calls Tryd.prog 17 #[.agg (rpC r v).toArray] w fun e w' => e = .returned (if Rp.ok r then .nilIface else ev) ∧ Keep (· < w.heap.size) w w' := by
  have HV := hid (hv.lt.mono (q := fun b => b < w.heap.size) (fun _ h => h.1))
  obtain ⟨va, vc, rfl, hc1, hc2⟩ := hv.form
  obtain ⟨N, hN⟩ : ∃ N, r.races.length = N := ⟨_, rfl⟩
  have HN := hid hN
  have HE := hid he
  rw [hN] at hc1 HV ⊢
  obtain ⟨rv, hrv⟩ : ∃ rv, (if Rp.ok r = true then Value.nilIface else ev) = rv := ⟨_, rfl⟩
  rw [hrv]
  have HRV := hid hrv
  clear hv he hN hrv
  go_enter Tryd.func17, Tryd.ntmps17
  go_upto_region 1 with fail
  refine wp_world (fun w1 => Keep (· < w.heap.size) w w1 ∧ w1.heap[w.heap.size]? = some (.cells (rpC r (.slice va N vc)).toArray 26 (0, 0)) ∧ w.heap.size < w1.heap.size) ⟨(Keep.refl _ _).alloc _ (fun _ h => h), heap_alloc_new w _, by simp⟩ ?_
  rintro w1 ⟨k1, R1, z1⟩
  have SS := hid (show ∀ wx : World, Keep (· < w1.heap.size) w1 wx → wx.rangeAt w.heap.size 0 (endC r.o r.f r.g r.n r.at_) ∧ wx.cell? ⟨w.heap.size, 5, none⟩ = some (.int .i64 r.steps) ∧ wx.cell? ⟨w.heap.size, 6, none⟩ = some (.slice va N vc) from fun wx kx => by
    have h := (kx.block _ z1).trans R1
    exact ⟨range_at h 0 5, cell_at h 5, cell_at h 6⟩)
  have K1 := hid k1
  have hi5 := end_size r.o r.f r.g r.n r.at_
  have HH : Rp.headOk r = ((Rp.endOk r.o r.f r.g r.n r.at_ && (decide (0 ≤ r.steps) && decide (r.steps ≤ 65537))) && decide (N ≤ 128)) := by unfold Rp.headOk; rw [HN.out]
  obtain ⟨b1, h1⟩ : ∃ b, Rp.endOk r.o r.f r.g r.n r.at_ = b := ⟨_, rfl⟩
  obtain ⟨b2, h2⟩ : ∃ b, (decide (0 ≤ r.steps) && decide (r.steps ≤ 65537)) = b := ⟨_, rfl⟩
  obtain ⟨b3, h3⟩ : ∃ b, decide (N ≤ 128) = b := ⟨_, rfl⟩
  have h3' : decide ((N : Int) ≤ 128) = b3 := by rw [← h3]; exact decide_eq_decide.2 (by omega)
  rw [h1, h2, h3] at HH
  have HHH := hid HH
  have W1 := hid (show ∀ w0 : World, Calls Tryd.prog 58 #[.agg (endC r.o r.f r.g r.n r.at_).toArray] w0 fun e w' => e = .returned (.bool b1) ∧ Keep (· < w0.heap.size) w0 w' from fun w0 => by have := ended_walk r.o r.f r.g r.n r.at_ w0; rwa [h1] at this)
  have W2 := hid (fun w0 => within_is r.steps 0 65537 b2 w0 h2)
  clear k1 R1 HH h1 h2
  obtain ⟨s0, s5, s6⟩ := SS.out w1 (Keep.refl _ _)
  have S0 := hid s0
  clear s0
  go_cut [3] (fun s3 wx => s3 = .bool (Rp.headOk r) ∧ Keep (· < w1.heap.size) w1 wx)
  case first =>
    clear s6
    go_wp2_with (refine wpList_load_mid rfl 23 (.tmp 7) rfl w.heap.size 0 rfl (endC r.o r.f r.g r.n r.at_) _ S0.out Tryd.underlying23 rfl hi5 ?_)
    refine (W1.out w1).mono ?_
    rintro e w2 ⟨rfl, k2⟩
    obtain ⟨_, s5', s6'⟩ := SS.out w2 k2
    have K2 := hid k2
    clear k2 s5
    cases b1 with
    | false =>
      go_wp2_with fail
      go_meet
      case rel => exact ⟨by rw [HHH.out]; rfl, K2.out⟩
    | true =>
      cases b2 with
      | false =>
        go_wp2_with fail
        refine (W2.out w2).mono ?_
        rintro e w3 ⟨rfl, rfl⟩
        go_wp2_with fail
        go_meet
        case rel => exact ⟨by rw [HHH.out]; rfl, K2.out⟩
      | true =>
        clear h3
        go_wp2_with fail
        refine (W2.out w2).mono ?_
        rintro e w3 ⟨rfl, rfl⟩
        go_wp2_with fail
        go_meet
        case rel => exact ⟨by rw [HHH.out]; rfl, K2.out⟩
  case rest =>
    obtain ⟨rfl, kc⟩ := hcut
    obtain ⟨ho, hho⟩ : ∃ b, Rp.headOk r = b := ⟨_, rfl⟩
    rw [hho]
    have HO := hid hho
    have s6c := (SS.out wc kc).2.2
    have KC := hid kc
    clear kc hho s5 s6 h3' h3 HHH W1 W2 S0
    go_wp2_with fail
    go_loopg [3, 4, 24] N (fun k s3 s4 s24 wr => ∃ i : Nat, i + k = N ∧ s24 = .int .i64 (i : Int) ∧ s3 = .bool (ho && Rp.racesOk (r.races.take i) (-1)) ∧ s4 = .int .i64 (Rp.lastOf (r.races.take i)) ∧ Keep (· < w1.heap.size) w1 wr)
    case atStart => exact ⟨0, by omega, rfl, by simp [Rp.racesOk], rfl, KC.out⟩
    case round =>
      obtain ⟨i, hi, rfl, rfl, rfl, hk⟩ := hrel
      have HK := hid hk
      clear hk
      by_cases hlt : i < N
      · have hlt' : i < r.races.length := by rw [HN.out]; exact hlt
        obtain ⟨a, len, cap, e, _, _, _, hx⟩ := HV.out
        obtain ⟨blk, off, ha, hb, hr⟩ := hx i r.races[i] (List.getElem?_eq_getElem hlt')
        injection e with e1 e2 e3
        rw [ha] at e1
        subst e1
        have l0 : (i : Int) < (N : Int) := by omega
        have hso := Rp.racesOk_take r.races i hlt'
        have hlo : Rp.lastOf (r.races.take (i + 1)) = r.races[i].pl := by rw [List.take_succ_eq_append_getElem hlt', Rp.lastOf_snoc]
        obtain ⟨x, hxx⟩ : ∃ x, r.races[i] = x := ⟨_, rfl⟩
        rw [hxx] at hr hso hlo
        obtain ⟨la, hla⟩ : ∃ la, Rp.lastOf (r.races.take i) = la := ⟨_, rfl⟩
        obtain ⟨bo, hbo⟩ : ∃ b, Rp.racesOk (r.races.take i) (-1) = b := ⟨_, rfl⟩
        have hlab : bo = true → -1 ≤ la ∧ la ≤ 127 := fun h => by rw [← hla]; exact Rp.lastOf_le _ (hbo.trans h)
        rw [hla, hbo] at hso
        rw [hla, hbo]
        obtain ⟨pl, fi, se, fw, sw⟩ := x
        simp only at hlo
        have HS := hid (And.intro hso (And.intro hlo hlab))
        have hr' : wr.rangeAt blk (off + i * 5) (rcC ⟨pl, fi, se, fw, sw⟩) := fun j v hv => ((K1.out.trans (HK.out.mono (fun b h => Nat.lt_trans h z1))).cell (x := ⟨blk, off + i * 5 + j, none⟩) hb).trans (hr j v hv)
        have HR := hid hr'
        have hi5x := rc_size ⟨pl, fi, se, fw, sw⟩
        have h15x := rc_one ⟨pl, fi, se, fw, sw⟩
        clear hso hlo hlab hr hr' hx hxx hla hbo e2 e3 ha hb
        go_upto_region 6 with (first | refine wpList_load_mid rfl 114 (.tmp 26) rfl blk (off + i * 5) rfl (rcC ⟨pl, fi, se, fw, sw⟩) _ HR.out Tryd.underlying114 rfl hi5x ?_ | refine wpList_store_row rfl 114 (.tmp 6) (.tmp 27) rfl wr.heap.size (rcC ⟨pl, fi, se, fw, sw⟩).toArray rfl rfl 114 _ (heap_alloc_new wr _) hi5x rfl h15x ?_)
        refine wp_world (fun w2 => Keep (· < wr.heap.size) wr w2 ∧ w2.heap[wr.heap.size]? = some (.cells (rcC ⟨pl, fi, se, fw, sw⟩).toArray 114 (0, 0))) ⟨((Keep.refl _ _).alloc _ (fun _ h => h)).setRow _ (by simp), heap_setRow (heap_alloc_new wr _) _⟩ ?_
        rintro w2 ⟨k2, X2⟩
        have x0 : w2.cell? ⟨wr.heap.size, 0, none⟩ = some (.int .i64 pl) := cell_at X2 0
        have x1 : w2.cell? ⟨wr.heap.size, 1, none⟩ = some (.int .i64 fi) := cell_at X2 1
        have x2 : w2.cell? ⟨wr.heap.size, 2, none⟩ = some (.int .i64 se) := cell_at X2 2
        have x3 : w2.cell? ⟨wr.heap.size, 3, none⟩ = some (.bool fw) := cell_at X2 3
        have x4 : w2.cell? ⟨wr.heap.size, 4, none⟩ = some (.bool sw) := cell_at X2 4
        have K2 := hid (HK.out.trans (k2.mono (fun b h => Nat.lt_of_lt_of_le h HK.out.size)))
        obtain ⟨X, hX⟩ : ∃ b, wr.heap.size = b := ⟨_, rfl⟩
        rw [hX] at x0 x1 x2 x3 x4 ⊢
        clear k2 X2 hX h15x hi5x HR
        obtain ⟨g0, hg0⟩ : ∃ g, (ho && bo) = g := ⟨_, rfl⟩
        rw [hg0]
        cases g0 with
        | false =>
          have HG := hid hg0
          clear hg0
          go_wp2_with fail
          go_roundg (gk - 1)
          case measure => omega
          case rel => exact ⟨i + 1, by omega, by go_num, by rw [HS.out.1, ← Bool.and_assoc, HG.out]; rfl, by rw [HS.out.2.1], K2.out⟩
        | true =>
          have hg1 : ho = true ∧ bo = true := by simpa using hg0
          have HG := hid hg1
          obtain ⟨la0, la1⟩ := HS.out.2.2 hg1.2
          obtain ⟨c1, h1⟩ : ∃ b, (decide (la + 1 ≤ pl) && decide (pl ≤ 127)) = b := ⟨_, rfl⟩
          obtain ⟨c2, h2⟩ : ∃ b, (decide (0 ≤ fi) && decide (fi ≤ 8192)) = b := ⟨_, rfl⟩
          obtain ⟨c3, h3⟩ : ∃ b, (decide (0 ≤ se) && decide (se ≤ 8192)) = b := ⟨_, rfl⟩
          have hro : Rp.raceOk la ⟨pl, fi, se, fw, sw⟩ = (((c1 && c2) && c3) && (fw || sw)) := by unfold Rp.raceOk; rw [h1, h2, h3]
          have RO := hid hro
          have W1 := hid (fun w0 => within_is pl (la + 1) 127 c1 w0 h1)
          have W2 := hid (fun w0 => within_is fi 0 8192 c2 w0 h2)
          have W3 := hid (fun w0 => within_is se 0 8192 c3 w0 h3)
          clear hg0 hg1 h1 h2 h3 hro
          cases c1 with
          | false =>
            go_wp2_with fail
            refine (W1.out _).mono ?_
            rintro e w3 ⟨rfl, rfl⟩
            go_wp2_with fail
            go_roundg (gk - 1)
            case measure => omega
            case rel => exact ⟨i + 1, by omega, by go_num, by rw [HS.out.1, HG.out.1, HG.out.2, RO.out]; rfl, by rw [HS.out.2.1], K2.out⟩
          | true =>
            cases c2 with
            | false =>
              go_wp2_with fail
              refine (W1.out _).mono ?_
              rintro e w3 ⟨rfl, rfl⟩
              go_wp2_with fail
              refine (W2.out _).mono ?_
              rintro e w3 ⟨rfl, rfl⟩
              go_wp2_with fail
              go_roundg (gk - 1)
              case measure => omega
              case rel => exact ⟨i + 1, by omega, by go_num, by rw [HS.out.1, HG.out.1, HG.out.2, RO.out]; rfl, by rw [HS.out.2.1], K2.out⟩
            | true =>
              cases c3 with
              | false =>
                go_wp2_with fail
                refine (W1.out _).mono ?_
                rintro e w3 ⟨rfl, rfl⟩
                go_wp2_with fail
                refine (W2.out _).mono ?_
                rintro e w3 ⟨rfl, rfl⟩
                go_wp2_with fail
                refine (W3.out _).mono ?_
                rintro e w3 ⟨rfl, rfl⟩
                go_wp2_with fail
                go_roundg (gk - 1)
                case measure => omega
                case rel => exact ⟨i + 1, by omega, by go_num, by rw [HS.out.1, HG.out.1, HG.out.2, RO.out]; rfl, by rw [HS.out.2.1], K2.out⟩
              | true =>
                cases fw with
                | true =>
                  go_wp2_with fail
                  refine (W1.out _).mono ?_
                  rintro e w3 ⟨rfl, rfl⟩
                  go_wp2_with fail
                  refine (W2.out _).mono ?_
                  rintro e w3 ⟨rfl, rfl⟩
                  go_wp2_with fail
                  refine (W3.out _).mono ?_
                  rintro e w3 ⟨rfl, rfl⟩
                  go_wp2_with fail
                  go_roundg (gk - 1)
                  case measure => omega
                  case rel => exact ⟨i + 1, by omega, by go_num, by rw [HS.out.1, HG.out.1, HG.out.2, RO.out]; rfl, by rw [HS.out.2.1], K2.out⟩
                | false =>
                  go_wp2_with fail
                  refine (W1.out _).mono ?_
                  rintro e w3 ⟨rfl, rfl⟩
                  go_wp2_with fail
                  refine (W2.out _).mono ?_
                  rintro e w3 ⟨rfl, rfl⟩
                  go_wp2_with fail
                  refine (W3.out _).mono ?_
                  rintro e w3 ⟨rfl, rfl⟩
                  go_wp2_with fail
                  go_roundg (gk - 1)
                  case measure => omega
                  case rel => exact ⟨i + 1, by omega, by go_num, by rw [HS.out.1, HG.out.1, HG.out.2, RO.out]; rfl, by rw [HS.out.2.1], K2.out⟩
      · obtain rfl : N = i := by omega
        clear hlt
        have hta : r.races.take N = r.races := List.take_of_length_le (by rw [HN.out]; exact Nat.le_refl _)
        have hok : Rp.ok r = (ho && Rp.racesOk r.races (-1)) := by unfold Rp.ok; rw [HO.out]
        rw [hta, ← hok]
        obtain ⟨g0, hg0⟩ : ∃ g, Rp.ok r = g := ⟨_, rfl⟩
        rw [hg0]
        have KE := hid (K1.out.trans (HK.out.mono (fun b h => Nat.lt_trans h z1)))
        have ce := (KE.out.cell (x := ⟨2, 0, none⟩) hl).trans HE.out
        clear hta hok
        cases g0 with
        | true =>
          have e := HRV.out
          rw [if_pos hg0] at e
          subst e
          clear hg0
          go_wp2_with fail
          go_ret
          exact ⟨rfl, KE.out⟩
        | false =>
          have e := HRV.out
          rw [if_neg (by rw [hg0]; decide)] at e
          subst e
          clear hg0
          go_wp2_with fail
          go_ret
          exact ⟨rfl, KE.out⟩
end Go.Proofs.YtnpneippahdigaaDoor
