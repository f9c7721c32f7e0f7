/-
  Step by step: event of the watcher.
-/
import Derived.Test.YtalihehmbiohlaaDoorOrdX
import Derived.Deep.CutBlock
import Derived.Test.YtalihehmbiohlaaDoorTail
namespace Go.Proofs.YtalihehmbiohlaaDoor
open Go.RowKit Go.Maps Go.Proofs.Mem Go.Proofs.Txt Go.Proofs.Ord Go.Proofs.Mp

/-- what several ways come to is shown once. -/
theorem share {T R : Prop} (f : T → R) (t : T) : R := f t
/-- behind the first switch: the clock so far in slot 5, the channel in slot 6. -/
def EvMid (B W : Nat) (rv : Value) (M1 M2 M3 n : Nat) (w : World) (lab0 : Labs) (E : Nat) (e : Ev) (s : St) (sn : Nat → Nat) (s5 s6 : Value) (wx : World) : Prop :=
  ∃ pb' lab', Watch B W rv M1 M2 M3 (n + 1) pb' wx lab' (if e.kd = 5 ∨ e.kd = 6 then { s with pipe := updI s.pipe e.obj (some (s.pp e.obj)) } else s) ∧ ClkAt wx lab' s5 sn ∧ ((e.kd = 5 ∨ e.kd = 6) → s6 = .pointer (some ⟨pb' e.obj, 0, none⟩)) ∧
    wx.heap[E]? = some (.cells (evC e).toArray 25 (0, 0)) ∧ E < wx.heap.size ∧ lab' E = .misc ∧ Stay (fun l => l = .old) w lab0 wx lab'
theorem Stay.old_of {S : Lab → Prop} {w w' : World} {lab lab' : Labs} (h : Stay S w lab w' lab') (hS : S .old) : Stay (fun l => l = .old) w lab w' lab' := h.mono fun l hl => by rw [hl]; exact hS
theorem evmid_plain {B W : Nat} {rv : Value} {M1 M2 M3 n : Nat} {pb : Int → Nat} {w wa wx : World} {E : Nat} {e : Ev} {s : St} {sn : Nat → Nat} {s5 s6 : Value} {lab0 lab lab' : Labs} {k : Int} (hk' : e.kd = k) (h : ¬ (k = 5 ∨ k = 6)) (hw : Watch B W rv M1 M2 M3 n pb wa lab s)
    (he : wa.heap[E]? = some (.cells (evC e).toArray 25 (0, 0)) ∧ E < wa.heap.size ∧ lab E = .misc) (hk : Stay (fun l => l = .old) w lab0 wa lab) (st : Stay (fun _ => True) wa lab wx lab') (hc : ClkAt wx lab' s5 sn) : EvMid B W rv M1 M2 M3 n w lab0 E e s sn s5 s6 wx := by
  rw [← hk'] at h
  refine ⟨pb, lab', ?_, hc, fun h' => absurd h' h, (st.keep.block E ⟨he.2.1, trivial⟩).trans he.1, Nat.lt_of_lt_of_le he.2.1 st.keep.size, (st.lab E he.2.1).trans he.2.2, hk.trans (st.old_of trivial)⟩
  rw [if_neg h]
  exact (hw.stay st (fun _ _ => trivial)).more (Nat.le_succ n)
theorem evmid_pipe {B W : Nat} {rv : Value} {M1 M2 M3 n b : Nat} {pb : Int → Nat} {w wa wx : World} {E : Nat} {e : Ev} {s : St} {sn : Nat → Nat} {s5 : Value} {lab0 lab lab' : Labs} {k : Int} (hk' : e.kd = k) (h : k = 5 ∨ k = 6) (hw : Watch B W rv M1 M2 M3 (n + 1) pb wa lab { s with pipe := updI s.pipe e.obj (some (s.pp e.obj)) })
    (he : wa.heap[E]? = some (.cells (evC e).toArray 25 (0, 0)) ∧ E < wa.heap.size ∧ lab E = .misc) (hk : Stay (fun l => l = .old) w lab0 wa lab) (st : Stay (fun _ => True) wa lab wx lab') (hb : pb e.obj = b) (hc : ClkAt wx lab' s5 sn) : EvMid B W rv M1 M2 M3 n w lab0 E e s sn s5 (.pointer (some ⟨b, 0, none⟩)) wx := by
  rw [← hk'] at h
  refine ⟨pb, lab', ?_, hc, fun _ => by rw [hb], (st.keep.block E ⟨he.2.1, trivial⟩).trans he.1, Nat.lt_of_lt_of_le he.2.1 st.keep.size, (st.lab E he.2.1).trans he.2.2, hk.trans (st.old_of trivial)⟩
  rw [if_pos h]
  exact hw.stay st (fun _ _ => trivial)
theorem Stay.of_all {S : Lab → Prop} {w w' : World} (lab : Labs) (h : Keep (fun _ => True) w w') : Stay S w lab w' lab := ⟨h.mono fun _ _ => trivial, fun _ _ => rfl⟩
theorem Watch.pipe_at {B W : Nat} {rv : Value} {M1 M2 M3 n : Nat} {pb : Int → Nat} {w : World} {lab : Labs} {s : St} (h : Watch B W rv M1 M2 M3 n pb w lab s) {c : Int} {p : Pipe} (hp : s.pipe c = some p) : PipeAt w lab c (pb c) p := by
  obtain ⟨t, _, _, _, h4⟩ := h.pipe
  rcases h4 c with ⟨h1, _⟩ | ⟨q, h1, _, h3⟩
  · rw [h1] at hp; cases hp
  · rw [h1] at hp; cases hp; exact h3
theorem room_le {rooms : List Int} (h : ∀ r ∈ rooms, r ≤ 9223372036854775807) (c : Int) : roomOf rooms c ≤ 9223372036854775807 := by
  unfold roomOf
  split
  · omega
  · rw [List.getD_eq_getElem?_getD]
    cases hr : rooms[c.toNat]? with
    | none => simp
    | some r => have := h r (List.mem_of_getElem? hr); simp; omega


/-- a code behind so many of its parts. -/
def tailAt : Nat → Code → Code
  | 0, c => c
  | k + 1, .seq _ b => tailAt k b
  | _ + 1, c => c
noncomputable def evCode (k : Nat) : Code := tailAt k ((Tryd.f29.body).getD .skip)
/-- ahead of the second switch. -/
def EvTwo (rooms : List Int) (B W : Nat) (rv : Value) (M1 M2 M3 n : Nat) (w : World) (lab0 : Labs) (E : Nat) (e : Ev) (s : St) (C : Nat → Nat) (s5 s6 : Value) (wx : World) : Prop :=
  ∃ pb' lab' s4, (if e.kd = 5 ∨ e.kd = 6 then { s with pipe := updI s.pipe e.obj (some (s.pp e.obj)) } else s) = s4 ∧ s.clock rooms e = C ∧ Watch B W rv M1 M2 M3 (n + 1) pb' wx lab' { s4 with own := upd s4.own e.g.toNat C } ∧ ClkAt wx lab' s5 C ∧
    ((e.kd = 5 ∨ e.kd = 6) → s6 = .pointer (some ⟨pb' e.obj, 0, none⟩)) ∧ (wx.heap[E]? = some (.cells (evC e).toArray 25 (0, 0)) ∧ E < wx.heap.size ∧ lab' E = .misc) ∧ Stay (fun l => l = .old) w lab0 wx lab'
end Go.Proofs.YtalihehmbiohlaaDoor
