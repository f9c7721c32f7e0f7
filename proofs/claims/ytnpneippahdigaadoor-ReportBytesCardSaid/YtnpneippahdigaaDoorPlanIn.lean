/-
  A region that draws its order, in a round of a loop over a function: the plan that walks it at the wide fence walks it there. No program in sight.
-/
import Derived.Test.YtnpneippahdigaaDoorTxt4
import Derived.OrdersIn
import Derived.RangeFuncCalls
import Derived.RangeFuncLeaves
import Derived.RangeFuncFrom
namespace Go.Proofs.Txt
open Go Go.RowKit Go.Proofs.Mem
section
variable {P : Program} {ops : Array Oper} {S : World → Prop} {Q : Exit → Act → World → Prop}

theorem wpIn_of_wp {o : Oper} {a : Act} {w : World} {K : Act → World → Prop} (l n : Nat) (hd : ∀ c, o.op ≠ .defer c) (h : o.wp P a w K Q) : o.wpIn (Fence.wide.inRound l) n P a w K Q := by
  unfold Oper.wpIn
  refine ⟨fun f _ => trivial, ?_⟩
  rw [show (Fence.wide.inRound l).round = some l from rfl, Oper.semAt_eq _ _ _ hd]
  unfold Oper.wp at h
  generalize (execOp a.eval o).run P w = r at h ⊢
  cases r with
  | ok x w' =>
    cases x <;> simp only [Oper.upon, Oper.uponIn] at h ⊢
    all_goals first
      | exact h
      | exact h.elim
      | exact ⟨fun hh => by simp [Fence.inRound, Fence.wide] at hh, CallsIn.inRound l (callsIn_wide.2 (h.mono fun e w'' he => by cases e <;> exact he))⟩
      | exact ⟨fun hh => by simp [Fence.inRound, Fence.wide] at hh, fun c cs _ => let ⟨v, w', r, s⟩ := h c cs; ⟨v, w', r, stepsIn_wide.2 s⟩⟩
  | halt x w' => cases x <;> simp only [Oper.upon, Oper.uponIn] at h ⊢ <;> first | exact h | exact h.elim

theorem wpOpIn_of (l n : Nat) (hlo : LetsOut Q → False) (hd : ∀ (i : Nat) (o : Oper), ops[i]? = some o → ∀ c, o.op ≠ .defer c) {i : Nat} {K K' : Act → World → Prop} {a : Act} {w : World} (hK : ∀ a w, K a w → K' a w) (h : wpOp P ops Q i K a w) : wpOpIn (Fence.wide.inRound l) n P ops Q i K' a w := by
  refine wpOpIn_mono hK ?_
  unfold wpOp at h
  unfold wpOpIn
  cases ho : ops[i]? with
  | none => simpa [ho] using h
  | some o =>
    simp only [ho] at h ⊢
    split
    · rename_i hw
      rw [if_pos hw] at h
      exact h.elim (fun h => wpIn_of_wp l n (hd i o ho) h) (fun h => (hlo h.2).elim)
    · rename_i hw
      rw [if_neg hw] at h
      exact ⟨fun f _ => trivial, h⟩

theorem wpAnyIn_of (l n : Nat) (hlo : LetsOut Q → False) {md : Region.Mode} (hd : ∀ (i : Nat) (o : Oper), ops[i]? = some o → ∀ c, o.op ≠ .defer c) : ∀ (fuel : Nat) (listed : Array Bool) (a : Act) (w : World), wpAny P md ops Q fuel listed a w → wpAnyIn (Fence.wide.inRound l) n P md ops Q fuel listed a w := by
  intro fuel
  induction fuel with
  | zero => intro listed a w h; exact h
  | succ fuel ih =>
    intro listed a w h
    exact ⟨h.1, fun i hi => wpOpIn_of l n hlo hd (fun a w => ih _ a w) (h.2 i hi)⟩
def noDefer (l : List Oper) : Bool := l.all fun o => match o.op with | .defer _ => false | _ => true
theorem noDefer_spec {l : List Oper} (h : noDefer l = true) (i : Nat) (o : Oper) (ho : l.toArray[i]? = some o) (c) : o.op ≠ .defer c := by
  intro e
  have hm : o ∈ l := by simpa using Array.mem_of_getElem? ho
  have := List.all_eq_true.1 h o hm
  rw [e] at this
  cases this
theorem wpIn_region_plan {id r n : Nat} {a : Act} {w : World} {l : List Oper} (free : List Bool) (p : Plan) (S : World → Prop) (hlo : LetsOut Q → False) (hm : P.follows .mixedOrders = true) (hnd : noDefer l = true) (hok : okPlan l.toArray free p = true) (hS : S w.drew)
    (h : runs P l.toArray S Q p a w.drew) : (Code.region id l.toArray true).wpIn (Fence.wide.inRound r) n P Q a w := by
  refine wpIn_region_any hm ?_
  refine wpAnyIn_of r n hlo (noDefer_spec hnd) _ _ _ _ ?_
  simp only [okPlan, Bool.and_eq_true] at hok
  obtain ⟨hsel, hB, hL, hg⟩ := hok
  have hsz : (Array.replicate l.toArray.size false).size = l.toArray.size := by simp
  have hall : todo l.toArray (Array.replicate l.toArray.size false) = List.range l.toArray.size := by
    unfold todo
    rw [List.filter_eq_self]
    intro i hi
    have : i < l.toArray.size := List.mem_range.1 hi
    simp only [Array.getD_eq_getD_getElem?, Bool.not_eq_true']
    rw [Array.getElem?_eq_getElem (by simpa using this)]
    simp
  exact any_of_plan (P := P) (Q := Q) (S := S) rfl hsel hB (loose2_of hL) l.toArray.size (Array.replicate l.toArray.size false) p a w.drew hsz (fun j oj hj hl => by
      have : (Array.replicate l.toArray.size false).getD j false = false := by
        simp only [Array.getD_eq_getD_getElem?, Array.getElem?_replicate]; split <;> rfl
      rw [this] at hl; cases hl) (by rw [hall]; simp) (.inr hS) (by rw [hall]; exact hg) h
end
section
variable {P : Program}
/-- a function that holds a loop over a function: its contract from its body. -/
theorem calls_of_marks {f : FuncId} {fn : Func} {c : Code} {args : Array Value} {w : World} {R : Ending → World → Prop} (hf : P.funcs[f]? = some fn) (hb : fn.body = some c)
    (h : c.wp P (bodyPostM Fence.wide 9 P fn R) { tmps := args ++ Array.replicate (fn.ntmps - args.size) undef, defers := [] } w) : Calls P f args w R :=
  (callsIn_wide (n := 9)).1 (callsIn_of_wp_marks hf hb trivial (wpIn_wide.2 h) rfl)
/-- it returns ahead of the loop. -/
theorem marks_ret0 {fn : Func} {R : Ending → World → Prop} {tmps : Array Value} {w : World} {v : Value} (hr : (results fn tmps).run P w = .ok v w) (hR : R (.returned v) w) : bodyPostM Fence.wide 9 P fn R .ret { tmps := tmps, defers := [] } w :=
  ⟨v, hr, hR⟩
/-- it returns behind the loop, or out of it. -/
theorem marks_ret1 {fn : Func} {R : Ending → World → Prop} {tmps : Array Value} {D : Nat} {w : World} {v : Value} (hk : w.heap[D]? = some (.deferred (some []))) (hr : (results fn tmps).run P (w.putObj D (.deferred none)) = .ok v (w.putObj D (.deferred none))) (hR : R (.returned v) (w.putObj D (.deferred none))) :
    bodyPostM Fence.wide 9 P fn R .ret { tmps := tmps, defers := [{ target := .collected D, args := #[] }] } w :=
  ⟨by simp, .inl ⟨_, _, rfl, run_takeDeferred hk, ⟨v, hr, hR⟩⟩⟩
end
theorem keep_putObj {p : Nat → Prop} {B : Nat} (hp : ∀ k, p k → k < B) (W : World) (l : Nat) (o o' : Obj) (hl : B ≤ l) (h : W.heap[l]? = some o) : Keep p W (W.putObj l o') :=
  (Keep.refl _ _).grown (grownBy_putObj' W l o') (fun k hk => ⟨by have := (Array.getElem?_eq_some_iff.1 h).1; have := hp k hk; omega, fun e => by injection e with e; have := hp k hk; omega⟩)
theorem cells_grown {W W' : World} {row : Option Nat} {X : Nat} {cs : Array Value} {T : TypeId} {fr : Nat × Nat} (hX : W.heap[X]? = some (.cells cs T fr)) (hg : W.grownBy W' row) (hr : ∀ r, row = some r → ∃ o : Obj, W.heap[r]? = some o ∧ o.isCells = false) : W'.heap[X]? = some (.cells cs T fr) := by
  rw [hg.block X (Array.getElem?_eq_some_iff.1 hX).1 (fun e => ?_)]
  · exact hX
  · obtain ⟨o, ho, hc⟩ := hr X e.symm
    rw [hX] at ho; cases ho; cases hc
end Go.Proofs.Txt
