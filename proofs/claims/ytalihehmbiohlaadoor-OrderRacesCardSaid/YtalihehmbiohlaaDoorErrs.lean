/-
  The errors' variables: what a row's list gives of them: each holds a pointer of its own. 
-/
import Derived.Test.YtalihehmbiohlaaDoorRows
import Derived.Test.YtalihehmbiohlaaDoorMem
import Derived.LaidLaws
namespace Go.Proofs.YtalihehmbiohlaaDoor
open Go.RowKit Go.Proofs.Mem

/-- an error's datum. -/
def errD {H : Type} (text : List UInt8) : DataW H := .iface "*errors.errorString" (.ptr (.agg [.lit (.string text)]))
/-- the variable at block g holds the error at a. -/
structure ErrAt (w : World) (g : Nat) (a : Addr) : Prop where
  cell : w.cell? ⟨g, 0, none⟩ = some (.iface 133 (.pointer (some a)))
  blk : ∃ c t, w.heap[a.block]? = some (.cells c t (0, 0))
  lt : g < w.heap.size
theorem ErrAt.keep {w w' : World} {p : Nat → Prop} {g : Nat} {a : Addr} (h : ErrAt w g a) (k : Keep p w w') (hg : p g) (ha : p a.block) : ErrAt w' g a :=
  ⟨(k.cell (x := ⟨g, 0, none⟩) hg).trans h.cell, by obtain ⟨c, t, hb⟩ := h.blk; exact ⟨c, t, (k.block _ ha).trans hb⟩, Nat.lt_of_lt_of_le h.lt k.size⟩
theorem ErrAt.blt {w : World} {g : Nat} {a : Addr} (h : ErrAt w g a) : a.block < w.heap.size := by
  obtain ⟨c, t, hb⟩ := h.blk
  exact (Array.getElem?_eq_some_iff.1 hb).1
/-- errors' variables, each with its own error. -/
def ErrsAt (w : World) : List Nat → List Addr → Prop
  | [], [] => True
  | g :: gs, a :: xs => ErrAt w g a ∧ ErrsAt w gs xs
  | _, _ => False
theorem ErrsAt.keep {w w' : World} {p : Nat → Prop} (k : Keep p w w') (hp : ∀ j, j < w.heap.size → p j) : ∀ {gs : List Nat} {xs : List Addr}, ErrsAt w gs xs → ErrsAt w' gs xs
  | [], [], _ => trivial
  | _ :: _, _ :: _, h => ⟨h.1.keep k (hp _ h.1.lt) (hp _ h.1.blt), ErrsAt.keep k hp h.2⟩
  | [], _ :: _, h => h.elim
  | _ :: _, [], h => h.elim
theorem ErrsAt.length {w : World} : ∀ {gs : List Nat} {xs : List Addr}, ErrsAt w gs xs → xs.length = gs.length
  | [], [], _ => rfl
  | _ :: _, _ :: _, h => by simp [ErrsAt.length h.2]
  | [], _ :: _, h => h.elim
  | _ :: _, [], h => h.elim

theorem errString_star : "*" ++ "errors.errorString" = "*errors.errorString" := by decide
theorem errString_row (u : TypeId) (h : Tryd.prog.typeName? 3 u = some "*errors.errorString") : u = 133 :=
  typeName_ptr_named (nm := "errors.errorString") (by rw [errString_star]; kernel_rfl) (by kernel_rfl) (by decide) u (by rw [errString_star]; exact h)
theorem err_cells : Tryd.prog.cellsOf 158 = 1 := by kernel_rfl
theorem str_cells : Tryd.prog.cellsOf 9 = 1 := by kernel_rfl

set_option maxRecDepth 100000 in
/-- out of the list of a row: the errors' variables. -/
theorem errs_of_list {W : World} (es : List (String × List UInt8)) : ∀ (gs : List Nat) (ps : List MemPlace),
    (es.map fun e => Tryd.prog.globalNamed e.1) = gs.map some → (∀ g ∈ gs, (Tryd.prog.globals[g]?).map (·.type) = some 28) →
    DataW.LaidVars Tryd.prog W (es.map fun e => (e.1, errD e.2)) ps → ps.Nodup →
    (∀ b off, MemPlace.cell b off ∈ ps → (∃ c t, W.heap[b]? = some (.cells c t (0, 0))) ∧ ∀ u v, W.cell? ⟨b, off, none⟩ = some (.iface u v) → Value.okWide Tryd.prog W .any 0 u v) →
    ∃ xs : List Addr, ErrsAt W gs xs ∧ xs.Nodup ∧ ∀ a ∈ xs, MemPlace.cell a.block a.off ∈ ps := by
  induction es with
  | nil =>
    intro gs ps hg _ _ _ _
    cases gs with
    | nil => exact ⟨[], trivial, List.nodup_nil, by simp⟩
    | cons g gs => simp at hg
  | cons e es ih =>
    intro gs ps hg ht h hnd hrows
    cases gs with
    | nil => simp at hg
    | cons g gs =>
      simp only [List.map_cons, List.cons.injEq] at hg
      obtain ⟨g', t', cs, fuel, p, q, hg', ht', hv, hd, hq, rfl⟩ := h
      obtain rfl := Option.some.inj (hg.1.symm.trans hg')
      obtain rfl := Option.some.inj ((ht g (by simp)).symm.trans ht')
      obtain ⟨l⟩ := cs
      have ok : ∀ u v, l = [.iface u v] → Value.okWide Tryd.prog W .any 0 u v := fun u v e' => by
        subst e'
        exact (hrows g 0 (by simp [MemPlace.row])).2 u v (by simpa using World.var?_cell hg' hv 0)
      obtain ⟨a, s, rfl, hc, hs, hz, rfl⟩ := errorString_of_trod Tryd.underlying28 errString_row Tryd.underlying133 Tryd.underlying158 rfl rfl Tryd.underlying9 err_cells str_cells hd ok
      have hnd' : q.Nodup := (List.nodup_append.1 hnd).2.1
      obtain ⟨xs, h1, h2, h3⟩ := ih gs q hg.2 (fun g hg => ht g (by simp [hg])) hq hnd' (fun b off hb => hrows b off (by simp [hb]))
      have hcell : W.cell? ⟨g, 0, none⟩ = some (.iface 133 (.pointer (some a))) := by simpa using World.var?_cell hg' hv 0
      refine ⟨a :: xs, ⟨⟨hcell, (hrows a.block a.off (by simp [MemPlace.row])).1, World.block_lt_of_cell? W _ hcell⟩, h1⟩, List.nodup_cons.2 ⟨fun ha => ?_, h2⟩, fun b hb => ?_⟩
      · have h4 := h3 a ha
        exact (List.nodup_append.1 hnd).2.2 (MemPlace.cell a.block a.off) (by simp [MemPlace.row]) _ h4 rfl
      · rcases List.mem_cons.1 hb with rfl | hb
        · simp [MemPlace.row]
        · simp [h3 b hb]
end Go.Proofs.YtalihehmbiohlaaDoor
