/-
  What ReportStores keeps from round to round: a store, a map, a row of numbers.
-/
import Derived.Test.YtnpneippahdigaaDoorRepR
import Derived.Test.YtnpneippahdigaaDoorInS
import Derived.Test.YtnpneippahdigaaDoorSameI
namespace Go.Proofs.Mp
open Go Go.Proofs.Mem
theorem mins_last (x : Int × Value) (m : Tab) (h : ∀ p ∈ m, p.1 < x.1) : mins x m = m ++ [x] := by
  induction m with
  | nil => rfl
  | cons y m ih =>
    unfold mins
    rw [if_neg (by have := h y List.mem_cons_self; omega), ih (fun p hp => h p (List.mem_cons_of_mem _ hp))]
    rfl
theorem mput_last {m : Tab} {k : Int} {v : Value} (h : ∀ p ∈ m, p.1 < k) : mput m k v = m ++ [(k, v)] := by
  unfold mput
  have : mdel m k = m := by
    unfold mdel
    rw [List.filter_eq_self]
    intro p hp
    have := h p hp
    simp; omega
  rw [this, mins_last _ _ h]
theorem keys_del (m : Tab) (k : Int) : (mdel m k).map (·.1) = (m.map (·.1)).filter (fun j => !(j == k)) := by
  unfold mdel
  rw [List.filter_map]
  rfl
end Go.Proofs.Mp
namespace Go.Proofs.YtnpneippahdigaaDoor
open Go.RowKit Go.Maps Go.Proofs.Mem Go.Proofs.Txt Go.Proofs.Mp

theorem EntsAt.keep2 {w w' : World} {p q p' : Nat → Prop} {m : Tab} {f : Int → Option Rp.Rep} (h : EntsAt w p m f) (k : Keep q w w') (hq : ∀ b, b < w.heap.size → p b → q b ∧ p' b) : EntsAt w' p' m f := by
  intro j
  rcases h j with h | ⟨r, v, h1, h2, h3⟩
  · exact .inl h
  · exact .inr ⟨r, v, h1, h2, (h3.lt.keep k (fun b hb => (hq b hb.1 hb.2).1)).mono (fun b hb => (hq b hb.1 hb.2).2)⟩

structure Stores (w0 : World) (S M Mh : Nat) (wr : World) (last : Int) (m : Tab) (f : Int → Option Rp.Rep) (mh : Tab) (fh : Int → Option Rp.Rep) (ks : List Int) (nv : Value) : Prop where
  sto : StoreAt wr S M last m
  ent : EntsAt wr (fun b => b ≠ S ∧ b ≠ M ∧ b ≠ Mh ∧ nv.ownBlock ≠ some b) m f
  hmap : IMap Tryd.prog 3 wr Mh mh
  hent : EntsAt wr (fun b => b < w0.heap.size) mh fh
  num : Row wr 3 nv (ks.map (Value.int .i64))
  numo : ∀ k, nv.ownBlock = some k → w0.heap.size ≤ k ∧ k ≠ S ∧ k ≠ M ∧ k ≠ Mh
  keep : Keep (· < w0.heap.size) w0 wr
  ne : Mh ≠ S ∧ Mh ≠ M ∧ w0.heap.size ≤ S ∧ w0.heap.size ≤ M ∧ w0.heap.size ≤ Mh

section
variable {w0 : World} {S M Mh : Nat} {wr : World} {last : Int} {m : Tab} {f : Int → Option Rp.Rep} {mh : Tab} {fh : Int → Option Rp.Rep} {ks : List Int} {nv : Value}
theorem Stores.step {w' : World} (h : Stores w0 S M Mh wr last m f mh fh ks nv) (k : Keep (· < wr.heap.size) wr w') : Stores w0 S M Mh w' last m f mh fh ks nv := by
  have hl := h.sto.lt
  have hm := h.hmap.lt
  have hz := h.keep.size
  exact ⟨h.sto.keep k hl.1 hl.2, h.ent.keep k (fun b hb _ => hb), h.hmap.keep k hm, h.hent.keep k (fun b hb _ => hb), h.num.keep k (fun b hb => h.num.lt hb), h.numo, h.keep.trans (k.mono (fun b hb => Nat.lt_of_lt_of_le hb hz)), h.ne⟩
theorem Stores.add {w' : World} (h : Stores w0 S M Mh wr last m f mh fh ks nv) (n : Int) (r : Rp.Rep) (v : Value) (hs : StoreAt w' S M n (mput m n (repV r v))) (hr : RacesAt w' (fun b => wr.heap.size ≤ b) v r.races) (k : Keep (fun k => k < wr.heap.size ∧ k ≠ S ∧ k ≠ M) wr w') :
    Stores w0 S M Mh w' n (mput m n (repV r v)) (fun j => if n = j then some r else f j) mh fh ks nv := by
  have hl := h.sto.lt
  have hm := h.hmap.lt
  have hz := h.keep.size
  have hne := h.ne
  refine ⟨hs, (h.ent.keep k (fun b hb hp => ⟨hb, hp.1, hp.2.1⟩)).put n r v (hr.mono (fun b hb => ⟨by omega, by omega, by omega, fun e => by have := h.num.lt e; omega⟩)), h.hmap.keep k ⟨hm, hne.1, hne.2.1⟩, h.hent.keep k (fun b hb hp => ⟨hb, by omega, by omega⟩),
    h.num.keep k (fun b hb => ⟨h.num.lt hb, (h.numo b hb).2.1, (h.numo b hb).2.2.1⟩), h.numo, h.keep.trans (k.mono (fun b hb => ⟨by omega, by omega, by omega⟩)), h.ne⟩
theorem Stores.del {w' : World} (h : Stores w0 S M Mh wr last m f mh fh ks nv) (n : Int) (hs : StoreAt w' S M last (mdel m n)) (k : Keep (fun k => k < wr.heap.size ∧ k ≠ M) wr w') :
    Stores w0 S M Mh w' last (mdel m n) (fun j => if n = j then none else f j) mh fh ks nv := by
  have hm := h.hmap.lt
  have hz := h.keep.size
  have hne := h.ne
  exact ⟨hs, (h.ent.keep k (fun b hb hp => ⟨hb, hp.2.1⟩)).del n, h.hmap.keep k ⟨hm, hne.2.1⟩, h.hent.keep k (fun b hb hp => ⟨hb, by omega⟩), h.num.keep k (fun b hb => ⟨h.num.lt hb, (h.numo b hb).2.2.1⟩), h.numo, h.keep.trans (k.mono (fun b hb => ⟨by omega, by omega⟩)), h.ne⟩
theorem Stores.hturn {w' : World} {mh' : Tab} {fh' : Int → Option Rp.Rep} (h : Stores w0 S M Mh wr last m f mh fh ks nv) (hm' : IMap Tryd.prog 3 w' Mh mh') (hg : wr.grownBy w' (some Mh)) (he : EntsAt wr (fun b => b < w0.heap.size) mh' fh') : Stores w0 S M Mh w' last m f mh' fh' ks nv := by
  have k : Keep (fun k => k < wr.heap.size ∧ k ≠ Mh) wr w' := (Keep.refl _ _).grown hg (fun k hk => ⟨hk.1, fun e => hk.2 (by injection e)⟩)
  have hl := h.sto.lt
  have hz := h.keep.size
  have hne := h.ne
  exact ⟨h.sto.keep k ⟨hl.1, fun e => hne.1 e.symm⟩ ⟨hl.2, fun e => hne.2.1 e.symm⟩, h.ent.keep k (fun b hb hp => ⟨hb, hp.2.2.1⟩), hm', he.keep k (fun b hb hp => ⟨hb, by omega⟩), h.num.keep k (fun b hb => ⟨h.num.lt hb, (h.numo b hb).2.2.2⟩), h.numo, h.keep.trans (k.mono (fun b hb => ⟨by omega, by omega⟩)), h.ne⟩
theorem Stores.app {w' : World} {nv' : Value} {ks' : List Int} (h : Stores w0 S M Mh wr last m f mh fh ks nv) (r : Row w' 3 nv' (ks'.map (Value.int .i64))) (k : Keep (fun k => k < wr.heap.size ∧ nv.ownBlock ≠ some k) wr w') (o : ∀ k, nv'.ownBlock = some k → nv.ownBlock = some k ∨ wr.heap.size ≤ k) :
    Stores w0 S M Mh w' last m f mh fh ks' nv' := by
  have hl := h.sto.lt
  have hm := h.hmap.lt
  have hz := h.keep.size
  have hne := h.ne
  have hno : ∀ b, b = S ∨ b = M ∨ b = Mh ∨ b < w0.heap.size → nv.ownBlock ≠ some b := fun b hb e => by
    have := h.numo b e
    omega
  refine ⟨h.sto.keep k ⟨hl.1, hno _ (.inl rfl)⟩ ⟨hl.2, hno _ (.inr (.inl rfl))⟩, h.ent.keep2 k (fun b hb hp => ⟨⟨hb, hp.2.2.2⟩, hp.1, hp.2.1, hp.2.2.1, fun e => ?_⟩), h.hmap.keep k ⟨hm, hno _ (.inr (.inr (.inl rfl)))⟩, h.hent.keep k (fun b hb hp => ⟨hb, hno _ (.inr (.inr (.inr hp)))⟩), r, fun j hj => ?_, h.keep.trans (k.mono (fun b hb => ⟨by omega, hno _ (.inr (.inr (.inr hb)))⟩)), h.ne⟩
  · rcases o b e with h1 | h1
    · exact hp.2.2.2 h1
    · omega
  · rcases o j hj with h1 | h1
    · exact h.numo j h1
    · omega
/-- another row of numbers, made since. -/
theorem Stores.swap {nv' : Value} {ks' : List Int} {B : Nat} (h : Stores w0 S M Mh wr last m f mh fh ks nv) (r : Row wr 3 nv' (ks'.map (Value.int .i64))) (hB : ∀ k, nv'.ownBlock = some k → B ≤ k) (hS : S < B ∧ M < B ∧ Mh < B) (he : EntsAt wr (fun b => b < B ∧ b ≠ S ∧ b ≠ M ∧ b ≠ Mh) m f) : Stores w0 S M Mh wr last m f mh fh ks' nv' := by
  have hne := h.ne
  exact ⟨h.sto, he.mono (fun b hb => ⟨hb.2.1, hb.2.2.1, hb.2.2.2, fun e => by have := hB b e; omega⟩), h.hmap, h.hent, r, fun k hk => by have := hB k hk; omega, h.keep, h.ne⟩
end
end Go.Proofs.YtnpneippahdigaaDoor
