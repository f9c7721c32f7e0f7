/-
  Step by step: 'New', 'Full', 'List', 'Delete' of package report's store.
-/
import Derived.Test.YtnpneippahdigaaDoorRepE
import Derived.Test.YtnpneippahdigaaDoorRepN
import Derived.Test.YtnpneippahdigaaDoorSorted
namespace Go.Proofs.YtnpneippahdigaaDoor
open Go.RowKit Go.Maps Go.Proofs.Mem Go.Proofs.Txt Go.Proofs.Mp

theorem int_keys : Keyed Tryd.prog 3 := int_keyed Tryd.underlying3
theorem key_ok {k : Int} (h : (Lit.int .i64 k).wf = true) : keyOf Tryd.prog 3 (.int .i64 k) = some (.int .i64 k) := keyOf_int_mk Tryd.underlying3 h
theorem key_small {k : Int} (h0 : 0 ≤ k) (h1 : k ≤ 9223372036854775807) : (Lit.int .i64 k).wf = true := by
  simp [Lit.wf, IntKind.min, IntKind.max, IntKind.signed, IntKind.bits]; omega
def repV (r : Rp.Rep) (v : Value) : Value := .agg (rpC r v).toArray
theorem rep_zero (w : World) : (zeroValue 26).run Tryd.prog w = .ok (repV noRep (.slice none 0 0)) w := by kernel_rfl
/-- a store of reports. -/
structure StoreAt (w : World) (S M : Nat) (last : Int) (m : Tab) : Prop where
  sto : w.heap[S]? = some (.cells #[.map (some M), .int .i64 last] 147 (0, 0))
  map : IMap Tryd.prog 3 w M m
  ne : S ≠ M
theorem StoreAt.keep {w w' : World} {S M : Nat} {last : Int} {m : Tab} {p : Nat → Prop} (h : StoreAt w S M last m) (k : Keep p w w') (h1 : p S) (h2 : p M) : StoreAt w' S M last m :=
  ⟨(k.block S h1).trans h.sto, h.map.keep k h2, h.ne⟩
theorem StoreAt.lt {w : World} {S M : Nat} {last : Int} {m : Tab} (h : StoreAt w S M last m) : S < w.heap.size ∧ M < w.heap.size := ⟨(Array.getElem?_eq_some_iff.1 h.sto).1, h.map.lt⟩
/-- what its map holds. -/
def EntsAt (w : World) (p : Nat → Prop) (m : Tab) (f : Int → Option Rp.Rep) : Prop :=
  ∀ k, (f k = none ∧ mget m k = none) ∨ (∃ r v, f k = some r ∧ mget m k = some (repV r v) ∧ RacesAt w p v r.races)
theorem EntsAt.keep {w w' : World} {p q : Nat → Prop} {m : Tab} {f : Int → Option Rp.Rep} (h : EntsAt w p m f) (k : Keep q w w') (hq : ∀ b, b < w.heap.size → p b → q b) : EntsAt w' p m f := by
  intro j
  rcases h j with h | ⟨r, v, h1, h2, h3⟩
  · exact .inl h
  · exact .inr ⟨r, v, h1, h2, (h3.lt.keep k (fun b hb => hq b hb.1 hb.2)).mono (fun b hb => hb.2)⟩
theorem EntsAt.mono {w : World} {p q : Nat → Prop} {m : Tab} {f : Int → Option Rp.Rep} (h : EntsAt w p m f) (hq : ∀ b, p b → q b) : EntsAt w q m f := by
  intro j
  rcases h j with h | ⟨r, v, h1, h2, h3⟩
  · exact .inl h
  · exact .inr ⟨r, v, h1, h2, h3.mono hq⟩
theorem EntsAt.val {w : World} {p : Nat → Prop} {m : Tab} {f : Int → Option Rp.Rep} (h : EntsAt w p m f) (k : Int) :
    ∃ a c, (mget m k).getD (repV noRep (.slice none 0 0)) = repV ((f k).getD noRep) (.slice a ((f k).getD noRep).races.length c) ∧ (mget m k).isSome = (f k).isSome ∧ RacesAt w p (.slice a ((f k).getD noRep).races.length c) ((f k).getD noRep).races := by
  rcases h k with ⟨h1, h2⟩ | ⟨r, v, h1, h2, h3⟩
  · rw [h1, h2]
    exact ⟨none, 0, rfl, rfl, RacesAt.nil _ _⟩
  · rw [h1, h2]
    obtain ⟨a, c, rfl, _⟩ := h3.form
    exact ⟨a, c, rfl, rfl, h3⟩
theorem EntsAt.put {w : World} {p : Nat → Prop} {m : Tab} {f : Int → Option Rp.Rep} (h : EntsAt w p m f) (k : Int) (r : Rp.Rep) (v : Value) (hv : RacesAt w p v r.races) : EntsAt w p (mput m k (repV r v)) (fun j => if k = j then some r else f j) := by
  intro j
  rw [mget_put]
  by_cases e : k = j
  · exact .inr ⟨r, v, by simp [e], by simp [e], hv⟩
  · simp only [if_neg e]; exact h j
theorem EntsAt.del {w : World} {p : Nat → Prop} {m : Tab} {f : Int → Option Rp.Rep} (h : EntsAt w p m f) (k : Int) : EntsAt w p (mdel m k) (fun j => if k = j then none else f j) := by
  intro j
  rw [mget_del]
  by_cases e : k = j
  · exact .inl (by simp [e])
  · simp only [if_neg e]; exact h j

set_option maxRecDepth 100000 in
theorem snew_walk (w : World) : Calls Tryd.prog 50 #[] w fun e w' => e = .returned (.pointer (some ⟨w.heap.size + 1, 0, none⟩)) ∧ StoreAt w' (w.heap.size + 1) w.heap.size 0 [] ∧ Keep (· < w.heap.size) w w' := by
  have hmm := @run_makeMap Tryd.prog
  go_enter Tryd.func50, Tryd.ntmps50
  go_wp2_with fail
  go_ret
  have k1 : Keep (· < (w.alloc (.map #[] 0)).heap.size) (w.alloc (.map #[] 0)) ((w.alloc (.map #[] 0)).alloc (.cells #[.map (some w.heap.size), .int .i64 0] 147)) := (Keep.refl _ _).alloc _ (fun _ h => h)
  refine ⟨rfl, ⟨by rw [← World.size_alloc w (.map #[] 0)]; exact heap_alloc_new _ _, (IMap.made _ _ w).keep k1 (by simp), by simp⟩, two_allocs w _ _⟩

set_option maxRecDepth 100000 in
theorem sfull_walk (S M : Nat) (last : Int) (m : Tab) (t : Bool) (w : World) (h : StoreAt w S M last m) (ht : decide (8 ≤ m.length) = t) :
    Calls Tryd.prog 52 #[.pointer (some ⟨S, 0, none⟩)] w fun e w' => e = .returned (.bool t) ∧ w = w' := by
  have HH := hid h
  have c0 : w.cell? ⟨S, 0, none⟩ = some (.map (some M)) := cell_at (cs := [_, _]) h.sto 0
  have tt : decide ((8 : Int) ≤ (m.length : Int)) = t := by rw [← ht]; simp; omega
  clear h ht
  go_enter Tryd.func52, Tryd.ntmps52
  go_wp2_with (at_len; refine wpList_ilen rfl (.tmp 6) 107 26 rfl Tryd.underlying107 M m rfl HH.out.map ?_)
  go_ret
  exact ⟨rfl, rfl⟩

set_option maxRecDepth 100000 in
theorem slist_walk (S M : Nat) (last : Int) (m : Tab) (w : World) (h : StoreAt w S M last m) (hl : m.length ≤ 1000000) :
    Calls Tryd.prog 54 #[.pointer (some ⟨S, 0, none⟩)] w fun e w' => ∃ v, e = .returned v ∧ Row w' 3 v ((m.map (·.1)).map fun k => Value.int .i64 k) ∧ (∀ k, v.ownBlock = some k → w.heap.size ≤ k) ∧ Keep (· < w.heap.size) w w' := by
  have HH := hid h
  have c0 : w.cell? ⟨S, 0, none⟩ = some (.map (some M)) := cell_at (cs := [_, _]) h.sto 0
  have HS := hid (sorted_call M m w h.map hl)
  clear h
  go_enter Tryd.func54, Tryd.ntmps54
  go_wp2_with fail
  refine (keys_call M _).mono ?_
  rintro e w1 ⟨rfl, rfl⟩
  go_wp2_with fail
  refine HS.out.mono ?_
  rintro e w2 ⟨v, rfl, h1, h2, h3⟩
  have HF := hid (And.intro h1 (And.intro h2 h3))
  clear h1 h2 h3 HS
  go_wp2_with fail
  go_ret
  exact ⟨v, rfl, HF.out⟩
end Go.Proofs.YtnpneippahdigaaDoor
