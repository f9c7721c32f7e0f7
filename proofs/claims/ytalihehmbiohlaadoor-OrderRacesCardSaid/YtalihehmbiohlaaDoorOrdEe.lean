/-
  Step by step: Races of the document's answer of layer 18: laws; what follows the search for the earlier access.
-/
import Derived.Test.YtalihehmbiohlaaDoorOrdEc
import Derived.Test.YtalihehmbiohlaaDoorOrdZ
namespace Go.Proofs.Mem
open Go Go.RowKit
theorem flatten_at2 {k : Nat} {ls : List (List Value)} (hk0 : 0 < k) (hk : ∀ x ∈ ls, x.length = k) (j : Nat) (y : Value) (h : ls.flatten[j]? = some y) : ∃ x, ls[j / k]? = some x ∧ x[j % k]? = some y := by
  have hj : j < ls.flatten.length := by
    rcases Nat.lt_or_ge j ls.flatten.length with h1 | h1
    · exact h1
    · rw [List.getElem?_eq_none h1] at h; cases h
  rw [flatten_length hk] at hj
  have h1 : j / k < ls.length := Nat.div_lt_of_lt_mul (by rw [Nat.mul_comm]; exact hj)
  obtain ⟨x, hx⟩ : ∃ x, ls[j / k]? = some x := ⟨_, List.getElem?_eq_getElem h1⟩
  have hl : x.length = k := hk x (List.mem_of_getElem? hx)
  have h2 : j % k < x.length := by rw [hl]; exact Nat.mod_lt _ hk0
  have h3 := flatten_get hk (j / k) x (j % k) x[j % k] hx (List.getElem?_eq_getElem h2)
  rw [show j / k * k + j % k = j by rw [Nat.mul_comm]; exact Nat.div_add_mod j k, h] at h3
  refine ⟨x, hx, ?_⟩
  rw [List.getElem?_eq_getElem h2, ← h3]
/-- append(v, s...) of a row of structs that lies somewhere to an own row. -/
theorem append_more {P : Program} (T E : TypeId) (z : Value) (k bytes : Nat) (hT : P.underlying T = some (.slice E)) (hinf : (P.info? E).map (fun i => (i.zero, i.size, i.bytes)) = some (some z, k, bytes)) (hzk : z.cells.size = k) (hk0 : 0 < k)
    (B : Nat) (w : World) (ty : TypeId) (v : Value) (a : Addr) (n c : Nat) (p : Nat → Prop) (ls ms : List (List Value)) (h : OwnS B w E k v ls) (hs : AtS w p k (.slice (some a) n c) ms) (hk : ∀ x ∈ ms, x.length = k) (h1 : ∀ x ∈ ms, ∀ y ∈ x, y.oneCell' = true) (hb : ls.length + ms.length ≤ 1000000) (hby : bytes ≤ 1000000) (hB : B ≤ w.heap.size) :
    ∃ v' w', (Builtin.append_ #[T, T] ty #[v, .slice (some a) n c]).run P w = .ok v' w' ∧ OwnS B w' E k v' (ls ++ ms) ∧ Keep (fun b => b < w.heap.size ∧ v.ownBlock ≠ some b) w w' ∧ ∀ b, v'.ownBlock = some b → v.ownBlock = some b ∨ w.heap.size ≤ b := by
  obtain ⟨i0, hi, hz, hsz, hyb⟩ := info_parts hinf
  obtain ⟨a', len, cap, e, h0, h2, h3, h4⟩ := hs
  cases e
  subst h0
  obtain ⟨v', w', hr, h6, h7, _, h8⟩ := run_append_own_at (P := P) w B T ty E i0 z k bytes hT hi hz hsz hyb hzk hk0 v ls.length ls.flatten h a ms.length c ms.flatten (flatten_length hk) (fun j u hu => by
    obtain ⟨x, hx, hy⟩ := flatten_at2 hk0 hk j u hu
    obtain ⟨blk, off, e, _, hr⟩ := h4 _ x hx
    cases e
    have := hr _ u hy
    rw [addr_add, show off + j = off + j / k * k + j % k by rw [Nat.add_assoc, Nat.mul_comm (j / k) k, Nat.div_add_mod]]
    exact this) (fun u hu => by
    obtain ⟨x, hx, hy⟩ := List.mem_flatten.1 hu
    exact h1 x hx u hy) (by unfold maxLen; omega) (by
    have : (ls.length + ms.length) * bytes ≤ 1000000 * 1000000 := Nat.mul_le_mul hb hby
    omega) hB
  refine ⟨v', w', hr, ?_, ⟨h7.os, h7.tape, h7.output, h7.size, fun b hb => h7.block b hb.1 (fun e => hb.2 e.symm)⟩, fun b hb => ?_⟩
  · unfold OwnS
    rw [List.length_append, List.flatten_append]
    exact h6
  · rcases h8 with h8 | h8
    · exact .inl (h8 ▸ hb)
    · rw [hb] at h8; injection h8 with h8; exact .inr (by omega)
/-- the first n of an own row. -/
theorem OwnS.take {B : Nat} {w : World} {E : TypeId} {k g m c : Nat} {ls : List (List Value)} (h : OwnS B w E k (.slice (some ⟨g, 0, none⟩) m c) ls) (hk : ∀ x ∈ ls, x.length = k) (n : Nat) (hn : n ≤ ls.length) : OwnS B w E k (.slice (some ⟨g, 0, none⟩) n c) (ls.take n) := by
  have hlen : (ls.take n).flatten.length = n * k := by
    rw [flatten_length (k := k) (fun x hx => hk x (List.mem_of_mem_take hx)), List.length_take, Nat.min_eq_left hn]
  have hfl : ls.flatten.take (n * k) = (ls.take n).flatten := by
    conv => lhs; rw [← List.take_append_drop n ls, List.flatten_append]
    rw [← hlen, List.take_left]
  rcases h.2 with ⟨e, _⟩ | ⟨g', cap, cur, e, hb, hg, hnc, hc, hs, ht⟩
  · cases e
  · have e' := e
    injection e with e1 e2 e3
    injection e1 with e1
    injection e1 with e1
    subst e1 e3
    have hl2 : (ls.take n).length = n := by rw [List.length_take, Nat.min_eq_left hn]
    refine ⟨by rw [hl2]; exact hlen, .inr ⟨g, c, cur, by rw [hl2], hb, hg, by rw [hl2]; omega, hc, hs, ?_⟩⟩
    rw [hl2, ← hfl, ← ht, List.take_take, Nat.min_eq_left (Nat.mul_le_mul_right k hn)]
/-- the rest of a row of structs. -/
theorem AtS.drop {w : World} {p : Nat → Prop} {k g o m c : Nat} {ls : List (List Value)} (h : AtS w p k (.slice (some ⟨g, o, none⟩) m c) ls) (n : Nat) (hn : n ≤ ls.length) : AtS w p k (.slice (some ⟨g, o + n * k, none⟩) (m - n) (c - n)) (ls.drop n) := by
  obtain ⟨a, len, cap, e, h1, h2, h3, h4⟩ := h
  cases e
  refine ⟨_, _, _, rfl, by rw [List.length_drop, h1], by omega, by omega, fun i x hx => ?_⟩
  rw [List.getElem?_drop] at hx
  obtain ⟨blk, off, e, hp, hr⟩ := h4 _ x hx
  cases e
  refine ⟨g, o + n * k, rfl, hp, ?_⟩
  rw [show o + n * k + i * k = o + (n + i) * k by rw [Nat.add_mul]; omega]
  exact hr
end Go.Proofs.Mem
namespace Go.Proofs.YtalihehmbiohlaaDoor
open Go.RowKit Go.Maps Go.Proofs.Mem Go.Proofs.Txt Go.Proofs.Ord Go.Proofs.Mp

theorem rcC_len5 {l : List Rc} : ∀ x ∈ l.map rcC, x.length = 5 := fun x hx => by obtain ⟨e, _, rfl⟩ := List.mem_map.1 hx; rfl
theorem rcC_one {l : List Rc} : ∀ x ∈ l.map rcC, ∀ y ∈ x, y.oneCell' = true := fun x hx y hy => by
  obtain ⟨e, _, rfl⟩ := List.mem_map.1 hx
  simp only [rcC, List.mem_cons, List.not_mem_nil, or_false] at hy
  rcases hy with rfl | rfl | rfl | rfl | rfl <;> rfl
theorem rc_append (B : Nat) (w : World) (ty : TypeId) (v : Value) (a : Addr) (n c : Nat) (p : Nat → Prop) (ls ms : List Rc) (h : OwnS B w 56 5 v (ls.map rcC)) (hs : AtS w p 5 (.slice (some a) n c) (ms.map rcC)) (hb : ls.length + ms.length ≤ 1000000) (hB : B ≤ w.heap.size) :
    ∃ v' w', (Builtin.append_ #[26, 26] ty #[v, .slice (some a) n c]).run Tryd.prog w = .ok v' w' ∧ OwnS B w' 56 5 v' ((ls ++ ms).map rcC) ∧ Keep (fun b => b < w.heap.size ∧ v.ownBlock ≠ some b) w w' ∧ ∀ b, v'.ownBlock = some b → v.ownBlock = some b ∨ w.heap.size ≤ b := by
  rw [List.map_append]
  exact append_more 26 56 _ 5 32 Tryd.underlying26 race_info rfl (by decide) B w ty v a n c p (ls.map rcC) (ms.map rcC) h hs rcC_len5 rcC_one (by rw [List.length_map, List.length_map]; exact hb) (by decide) hB
/-- the races found, and which places have one. -/
structure RfIn (wS wr : World) (rooms : List Int) (l : List Ev) (j M : Nat) (s5 : Value) : Prop where
  row : OwnS wS.heap.size wr 56 5 s5 ((foundL rooms l j).map rcC)
  some_ : ∃ g c, s5 = .slice (some ⟨g, 0, none⟩) (foundL rooms l j).length c
  map : ∃ t, IMap Tryd.prog 3 wr M t ∧ t.length ≤ j ∧ ∀ c, mget t c = if (foundL rooms l j).any (fun r => r.pl == c) then some (.bool true) else none
  mb : wS.heap.size ≤ M
  ne : s5.ownBlock ≠ some M
  keep : Keep (· < wS.heap.size) wS wr
theorem RfIn.next {wS wr wx : World} {rooms : List Int} {l : List Ev} {j M : Nat} {s5 : Value} (h : RfIn wS wr rooms l j M s5) (k : Keep (· < wr.heap.size) wr wx) : RfIn wS wx rooms l j M s5 := by
  obtain ⟨t, h1, h2⟩ := h.map
  exact ⟨h.row.keep k (fun b hb => (h.row.lt hb).2), h.some_, ⟨t, h1.keep k h1.lt, h2⟩, h.mb, h.ne, h.keep.trans (k.mono fun b hb => Nat.lt_of_lt_of_le hb h.keep.size)⟩
theorem RfIn.same {wS wr : World} {rooms : List Int} {l : List Ev} {j M : Nat} {s5 : Value} (h : RfIn wS wr rooms l j M s5) (e : foundL rooms l (j + 1) = foundL rooms l j) : RfIn wS wr rooms l (j + 1) M s5 := by
  obtain ⟨t, h1, h2, h3⟩ := h.map
  exact ⟨by rw [e]; exact h.row, by rw [e]; exact h.some_, ⟨t, h1, by omega, by rw [e]; exact h3⟩, h.mb, h.ne, h.keep⟩
theorem grown_keep {w w' : World} {b : Nat} (h : w.grownBy w' (some b)) : Keep (fun k => k < w.heap.size ∧ k ≠ b) w w' := ⟨h.os, h.tape, h.output, h.size, fun k hk => h.block k hk.1 (fun e => hk.2 (Option.some.inj e))⟩
theorem wpList_ilook_if {P : Program} {ops : Array Oper} {rest : List Oper} {o : Oper} {a : Act} {w : World} {Q : Exit → Act → World → Prop} {K : TypeId} (hw : Region.wanted o (yielded ops a.tmps) = true) (x y : Operand) (T E : TypeId) (hop : o.op = .lookup T x y false) (hK : Keyed P K) (hT : P.underlying T = some (.map K E)) (b : Nat) (m : Tab) (hm : a.eval x = .map (some b)) (h : IMap P K w b m)
    (key : Int) (hy : a.eval y = .int .i64 key) (hkey : keyOf P K (.int .i64 key) = some (.int .i64 key)) (z : Value) (hz : (zeroValue E).run P w = .ok z w)
    (hk : wpList P ops Q rest (a.put o.dst ((mget m key).getD z)) w) : wpList P ops Q (o :: rest) a w := by
  refine wpList_step fun K' hK' => ?_
  rw [if_pos hw]
  exact wp_ilook x y T E hop hK hT b m hm h key hy hkey z hz (hK' _ _ hk)
/-- the bodies of a code's loops, the outer ones first. -/
def inBlock : Code → Code
  | .block _ c => c
  | c => c
def headOf : Code → Code
  | .seq a _ => a
  | c => c
noncomputable def rfCode (k : Nat) : Code := tailAt k (inBlock (headOf (tailAt 2 (((Tryd.f20.body.map loopsOf).getD []).getD 0 .skip))))
theorem found_none {rooms : List Int} {l : List Ev} {j : Nat} (h : fstB rooms l j j = none) : foundL rooms l (j + 1) = foundL rooms l j := by
  rw [fst_cand] at h
  have hc : cand rooms l j = [] := by
    cases hh : cand rooms l j with
    | nil => rfl
    | cons a b => rw [hh] at h; cases h
  show (if (evAt l j).acc && !(cand rooms l j).isEmpty && _ then _ else foundL rooms l j) = _
  rw [hc]
  simp
theorem found_some {rooms : List Int} {l : List Ev} {j f : Nat} (h : fstB rooms l j j = some f) (ha : (evAt l j).acc = true) (hn : (foundL rooms l j).any (fun r => r.pl == (evAt l j).obj) = false) :
    f < j ∧ foundL rooms l (j + 1) = insR (raceOf l f j) (foundL rooms l j) := by
  rw [fst_cand] at h
  have hc : cand rooms l j ≠ [] ∧ f = told l (cand rooms l j) := by
    cases hh : cand rooms l j with
    | nil => rw [hh] at h; cases h
    | cons a b => rw [hh] at h; exact ⟨by simp, (Option.some.inj h).symm⟩
  have hm := told_mem l _ hc.1
  rw [← hc.2] at hm
  refine ⟨cand_lt rooms l j f hm, ?_⟩
  show (if (evAt l j).acc && !(cand rooms l j).isEmpty && (foundL rooms l j).all (fun r => r.pl != (evAt l j).obj) then insR (raceOf l (told l (cand rooms l j)) j) (foundL rooms l j) else foundL rooms l j) = _
  rw [if_pos, hc.2]
  rw [ha]
  have h1 : (cand rooms l j).isEmpty = false := by simpa using hc.1
  have h2 : (foundL rooms l j).all (fun r => r.pl != (evAt l j).obj) = true := by
    rw [List.all_eq_true]
    intro r hr
    have := List.any_eq_false.1 hn r hr
    simpa using this
  rw [h1, h2]; rfl
set_option maxRecDepth 1000000 in
set_option maxHeartbeats 8000000 in
/-- behind the search. -/
theorem rf_b {s5 s2 s3 s4 s10 s11 s12 s13 s14 s15 s16 s17 s19 s20 s21 s22 s23 s24 s25 s26 s27 s28 s29 s30 s31 s32 s33 s34 s35 s36 s37 s38 s39 s40 s41 s42 s43 s44 s45 s46 s47 s48 s49 s50 s51 s52 s53 s54 s55 s56 s57 s58 s59 s60 s61 s62 s63 s64 s65 s66 s67 s68 s69 s70 s71 s72 s73 s74 s75 s76 s77 s78 s79 s80 s81 s82 s83 s84 s85 s86 s87 s88 s89 s90 s91 s92 s93 s94 s95 s96 s97 s98 s99 s100 s101 s102 s103 s104 s105 s106 s107 s108 s109 s110 s111 s112 s113 s114 s115 s116 s117 s118 s119 s120 s121 s122 s123 s124 s125 s126 s127 s128 s129 s130 s131 s132 s133 s134 s135 s136 s137 s138 s139 s140 s141 s142 s143 s144 s145 s146 s147 s148 s149 s150 s151 s152 s153 s154 s155 s156 s157 s158 s159 s160 s161 s162 s163 s164 s165 : Value} {F : Int} {rooms : List Int} {l : List Ev} {blk off vc T M E j : Nat} {bs : Nat → Nat} {w0 wS wr : World} {K : Act → World → Prop} {Q1 : Exit → Act → World → Prop}
    (hv : EvsAt wS (fun b => b < wS.heap.size) (.slice (some ⟨blk, off, none⟩) l.length vc) l) (hc1 : l.length ≤ vc) (hc2 : vc ≤ 9223372036854775807) (ht : TabIn w0 wS T l.length l.length bs (hbB rooms l)) (hok : l.all Ev.ok = true) (hwf : ∀ e ∈ l, (Lit.int .i64 e.obj).wf = true) (hl : l.length ≤ 1000) (hj : j < l.length)
    (hin : RfIn wS wr rooms l j M s5) (hE : wr.heap[E]? = some (.cells (evC (evAt l j)).toArray 25 (0, 0))) (hEw : wS.heap.size ≤ E) (hE5 : s5.ownBlock ≠ some E)
    (ha : (evAt l j).acc = true) (hn : (foundL rooms l j).any (fun r => r.pl == (evAt l j).obj) = false) (hF : F = (fstB rooms l j j).elim (-1) fun f => (f : Int))
    (hK : ∀ (x7 x8 x9 x10 x11 x12 x13 x19 x20 x21 x22 x23 x24 x25 x26 x27 x28 x29 x30 x31 x32 x33 x34 x35 x36 x37 x38 x39 x40 x41 x42 x43 x44 x45 x46 x47 x48 x49 x50 x51 x52 x53 x54 x55 x56 x57 x58 x59 x60 x61 x62 x63 x64 x65 x66 x67 x68 x69 x70 x71 x72 x73 x74 x75 x76 x77 x78 x79 x80 x81 x82 x83 x84 x85 x86 x87 x88 x89 x90 x91 x92 x93 x94 x95 x96 x97 x98 x99 x100 x101 x102 x103 x104 x105 x106 x107 x108 x109 x110 x111 x112 x113 x114 x115 x116 x117 x118 x119 x120 x121 x122 x123 x124 x125 x126 x127 x128 x129 x130 x131 x132 x133 x134 x135 x136 x137 x138 x139 x140 x141 x142 x143 x144 x145 x146 x147 x148 x149 x150 x151 x152 x153 x154 x155 x156 x157 x158 x159 x160 x161 x162 x163 x164 : Value) (v5 : Value) (wx : World), RfIn wS wx rooms l (j + 1) M v5 → K ⟨#[.slice (some ⟨blk, off, none⟩) l.length vc, .slice (some ⟨T, 0, none⟩) l.length l.length, s2, s3, s4, v5, .map (some M), x7, x8, x9, x10, x11, x12, x13, s14, s15, s16, s17, .int .i64 (j : Int), x19, x20, x21, x22, x23, x24, x25, x26, x27, x28, x29, x30, x31, x32, x33, x34, x35, x36, x37, x38, x39, x40, x41, x42, x43, x44, x45, x46, x47, x48, x49, x50, x51, x52, x53, x54, x55, x56, x57, x58, x59, x60, x61, x62, x63, x64, x65, x66, x67, x68, x69, x70, x71, x72, x73, x74, x75, x76, x77, x78, x79, x80, x81, x82, x83, x84, x85, x86, x87, x88, x89, x90, x91, x92, x93, x94, x95, x96, x97, x98, x99, x100, x101, x102, x103, x104, x105, x106, x107, x108, x109, x110, x111, x112, x113, x114, x115, x116, x117, x118, x119, x120, x121, x122, x123, x124, x125, x126, x127, x128, x129, x130, x131, x132, x133, x134, x135, x136, x137, x138, x139, x140, x141, x142, x143, x144, x145, x146, x147, x148, x149, x150, x151, x152, x153, x154, x155, x156, x157, x158, x159, x160, x161, x162, x163, x164, s165], []⟩ wx) :
    Code.wp Tryd.prog (rfCode 4) (Exit.inBlock 1 (Exit.then K Q1)) ⟨#[.slice (some ⟨blk, off, none⟩) l.length vc, .slice (some ⟨T, 0, none⟩) l.length l.length, s2, s3, s4, s5, .map (some M), .int .i64 (j : Int), .pointer (some ⟨E, 0, none⟩), .int .i64 F, s10, s11, s12, s13, s14, s15, s16, s17, .int .i64 (j : Int), s19, s20, s21, s22, s23, s24, s25, s26, s27, s28, s29, s30, s31, s32, s33, s34, s35, s36, s37, s38, s39, s40, s41, s42, s43, s44, s45, s46, s47, s48, s49, s50, s51, s52, s53, s54, s55, s56, s57, s58, s59, s60, s61, s62, s63, s64, s65, s66, s67, s68, s69, s70, s71, s72, s73, s74, s75, s76, s77, s78, s79, s80, s81, s82, s83, s84, s85, s86, s87, s88, s89, s90, s91, s92, s93, s94, s95, s96, s97, s98, s99, s100, s101, s102, s103, s104, s105, s106, s107, s108, s109, s110, s111, s112, s113, s114, s115, s116, s117, s118, s119, s120, s121, s122, s123, s124, s125, s126, s127, s128, s129, s130, s131, s132, s133, s134, s135, s136, s137, s138, s139, s140, s141, s142, s143, s144, s145, s146, s147, s148, s149, s150, s151, s152, s153, s154, s155, s156, s157, s158, s159, s160, s161, s162, s163, s164, s165], []⟩ wr := by
  have HV := hid hv
  have HT := hid ht
  have HK := hid hK
  have HI := hid hin
  have HKY := hid (key_ok (hwf _ (by rw [evAt_get l j hj]; exact List.getElem_mem _) : (Lit.int .i64 (evAt l j).obj).wf = true))
  cases hfo : fstB rooms l j j with
  | none =>
    rw [hfo] at hF
    obtain rfl : F = -1 := hF
    have HN := hid (found_none hfo)
    clear hv ht hK hin hok hwf hfo hn ha hE hEw hE5
    conv => arg 2; whnf
    go_wp2_with fail
    exact HK.out _ _ _ _ _ _ _ _ _ _ _ _ _ _ _ _ _ _ _ _ _ _ _ _ _ _ _ _ _ _ _ _ _ _ _ _ _ _ _ _ _ _ _ _ _ _ _ _ _ _ _ _ _ _ _ _ _ _ _ _ _ _ _ _ _ _ _ _ _ _ _ _ _ _ _ _ _ _ _ _ _ _ _ _ _ _ _ _ _ _ _ _ _ _ _ _ _ _ _ _ _ _ _ _ _ _ _ _ _ _ _ _ _ _ _ _ _ _ _ _ _ _ _ _ _ _ _ _ _ _ _ _ _ _ _ _ _ _ _ _ _ _ _ _ _ _ _ _ _ _ _ _ _  _ _ (HI.out.same HN.out)
  | some f =>
    rw [hfo] at hF
    obtain rfl : F = (f : Int) := hF
    obtain ⟨hfj, hfd⟩ := found_some hfo ha hn
    have HFD := hid hfd
    obtain ⟨e, he⟩ : ∃ e, evAt l j = e := ⟨_, rfl⟩
    obtain ⟨e', he'⟩ : ∃ e', evAt l f = e' := ⟨_, rfl⟩
    have HEE := hid (And.intro he he')
    rw [he] at hE hn HKY
    obtain ⟨g, kd, ob, a⟩ := e
    obtain ⟨g', kd', ob', a'⟩ := e'
    have hr : raceOf l f j = ⟨ob, a', a, kd' == 2, kd == 2⟩ := by unfold raceOf; rw [he, he']; rfl
    rw [hr] at HFD
    obtain ⟨rs, hrs⟩ : ∃ rs, foundL rooms l j = rs := ⟨_, rfl⟩
    have hrl : rs.length ≤ j := by rw [← hrs]; exact found_length rooms l j
    have HSO := hid (show Sorted rs from hrs ▸ found_sorted rooms l j)
    obtain ⟨sg, sc, rfl⟩ := hin.some_
    obtain ⟨t, hm, htl, htg⟩ := hin.map
    rw [hrs] at hn htg HFD
    have HTG := hid (And.intro htl (And.intro htg hn))
    have HM := hid hm
    have HEB := hid (And.intro hE (And.intro hEw hE5))
    have hMl := hm.lt
    have hEl : E < wr.heap.size := (Array.getElem?_eq_some_iff.1 hE).1
    have hEM : E ≠ M := fun e => by have h1 := hm.notCells (e ▸ hE); cases h1
    have ce : wr.cell? ⟨E, 2, none⟩ = some (.int .i64 ob) := cell_at hE 2
    have htl2 : t.length < maxLen := by unfold maxLen; omega
    have hRS := hid hrs
    clear hv ht hK hin hok hwf hfo hn ha hE hEw hE5 he he' hr hrs hm htl htg hfd
    conv => arg 2; whnf
    go_upto_region 17 with (refine wpList_istore rfl (.tmp 115) (.tmp 117) (.const (.bool true)) 80 4 rfl int_keys Tryd.underlying80 M t rfl HM.out htl2 ob rfl HKY.out (.bool true) rfl ?_; intro w1 hm1 hg1; have H1 := hid (And.intro hm1 (grown_keep hg1)); clear hm1 hg1)
    try simp only [Act.put]
    have hEb : w1.heap[E]? = some (.cells (evC ⟨g, kd, ob, a⟩).toArray 25 (0, 0)) := (H1.out.2.block E ⟨hEl, hEM⟩).trans HEB.out.1
    have hMw := HI.out.mb
    have HKW := hid (show Keep (· < wS.heap.size) wS w1 from HI.out.keep.trans (H1.out.2.mono fun b (hb : b < wS.heap.size) => ⟨Nat.lt_of_lt_of_le hb HI.out.keep.size, by omega⟩))
    obtain ⟨_, _, f1, _, f3⟩ := (HV.out.keep HKW.out (fun _ h => h)).same f (by omega) rfl
    rw [HEE.out.2] at f1 f3
    have e1 : w1.cell? ⟨E, 1, none⟩ = some (.int .i64 kd) := cell_at hEb 1
    have e2 : w1.cell? ⟨E, 2, none⟩ = some (.int .i64 ob) := cell_at hEb 2
    have e3 : w1.cell? ⟨E, 3, none⟩ = some (.int .i64 a) := cell_at hEb 3
    have lf : (f : Int) < (l.length : Int) := by omega
    have rsz := rc_size ⟨ob, a', a, kd' == 2, kd == 2⟩
    have r1 := rc_one ⟨ob, a', a, kd' == 2, kd == 2⟩
    clear ce hEb hMw
    refine wp_region_plan [true, true, true, true, true, true, true, true, true, true, true, true, true, true, true, true, true, true, true, false, false] (.free 0 (.free 1 (.free 2 (.free 3 (.free 4 (.free 5 (.free 6 (.free 7 (.free 8 (.free 9 (.free 10 (.free 11 (.free 12 (.free 13 (.free 14 (.free 15 (.free 16 (.free 17 (.free 18 (.one 19 (.last 20))))))))))))))))))))) (fun wx => wx.cell? ⟨E, 1, none⟩ = some (.int .i64 kd) ∧ wx.cell? ⟨E, 2, none⟩ = some (.int .i64 ob) ∧ wx.cell? ⟨E, 3, none⟩ = some (.int .i64 a) ∧ wx.cell? ⟨blk, off + f * 4 + 1, none⟩ = some (.int .i64 kd') ∧ wx.cell? ⟨blk, off + f * 4 + 3, none⟩ = some (.int .i64 a')) (by kernel_rfl) (by kernel_rfl) ⟨e1, e2, e3, f1, f3⟩ ?_
    iterate 1 (refine plan_free rfl rfl (fun K hK => ?_); go_simp; refine hK _ ?_; clear hK K)
    refine plan_held (.int .i64 ob) rfl rfl (fun w0 h0 => by obtain ⟨h1, h2, h3, h4, h5⟩ := h0; go_simp) (fun K hK => ?_); refine hK _ ?_; clear hK K
    iterate 4 (refine plan_free rfl rfl (fun K hK => ?_); go_simp; refine hK _ ?_; clear hK K)
    refine plan_held (.int .i64 a') rfl rfl (fun w0 h0 => by obtain ⟨h1, h2, h3, h4, h5⟩ := h0; go_simp) (fun K hK => ?_); refine hK _ ?_; clear hK K
    iterate 1 (refine plan_free rfl rfl (fun K hK => ?_); go_simp; refine hK _ ?_; clear hK K)
    refine plan_held (.int .i64 a) rfl rfl (fun w0 h0 => by obtain ⟨h1, h2, h3, h4, h5⟩ := h0; go_simp) (fun K hK => ?_); refine hK _ ?_; clear hK K
    iterate 4 (refine plan_free rfl rfl (fun K hK => ?_); go_simp; refine hK _ ?_; clear hK K)
    refine plan_held (.int .i64 kd') rfl rfl (fun w0 h0 => by obtain ⟨h1, h2, h3, h4, h5⟩ := h0; go_simp) (fun K hK => ?_); refine hK _ ?_; clear hK K
    iterate 2 (refine plan_free rfl rfl (fun K hK => ?_); go_simp; refine hK _ ?_; clear hK K)
    refine plan_held (.int .i64 kd) rfl rfl (fun w0 h0 => by obtain ⟨h1, h2, h3, h4, h5⟩ := h0; go_simp) (fun K hK => ?_); refine hK _ ?_; clear hK K
    iterate 2 (refine plan_free rfl rfl (fun K hK => ?_); go_simp; refine hK _ ?_; clear hK K)
    have hal : ∀ wx : World, Keep (· < w1.heap.size) w1 wx → wx.cell? ⟨E, 1, none⟩ = some (.int .i64 kd) ∧ wx.cell? ⟨E, 2, none⟩ = some (.int .i64 ob) ∧ wx.cell? ⟨E, 3, none⟩ = some (.int .i64 a) ∧ wx.cell? ⟨blk, off + f * 4 + 1, none⟩ = some (.int .i64 kd') ∧ wx.cell? ⟨blk, off + f * 4 + 3, none⟩ = some (.int .i64 a') := fun wx kx => by
      have hb := Nat.lt_of_lt_of_le hEl H1.out.2.size
      have hb2 := World.block_lt_of_cell? w1 _ f1
      exact ⟨(kx.cell (x := ⟨E, 1, none⟩) hb).trans e1, (kx.cell (x := ⟨E, 2, none⟩) hb).trans e2, (kx.cell (x := ⟨E, 3, none⟩) hb).trans e3, (kx.cell (x := ⟨blk, off + f * 4 + 1, none⟩) hb2).trans f1, (kx.cell (x := ⟨blk, off + f * 4 + 3, none⟩) hb2).trans f3⟩
    have HAL := hid hal
    clear hal
    refine plan_one rfl rfl (fun K hK => ?_); go_simp
    refine hK _ _ ⟨HAL.out _ ((Keep.refl _ _).alloc _ (fun _ h => h)).drew, ?_⟩; clear hK K
    refine plan_world (fun wx => Keep (· < w1.heap.size) w1 wx ∧ wx.heap[w1.heap.size]? = some (.cells (rcC ⟨0, 0, 0, false, false⟩).toArray 56 (0, 0))) ⟨((Keep.refl _ _).alloc _ (fun _ h => h)).drew, heap_alloc_new w1 _⟩ ?_
    rintro w2 ⟨k2, z2⟩
    obtain ⟨P, hP⟩ : ∃ P, w1.heap.size = P := ⟨_, rfl⟩
    have z2' : w2.heap[P]? = some (.cells (rcC ⟨0, 0, 0, false, false⟩).toArray 56 (0, 0)) := hP ▸ z2
    rw [hP]
    refine plan_last rfl rfl (fun K hK => wp_store_row 56 (.tmp 12) (.tmp 136) rfl P (rcC ⟨ob, a', a, kd' == 2, kd == 2⟩).toArray rfl rfl 56 _ z2' (by rw [List.size_toArray]; exact rsz) rfl r1 (hK _ _ ?_))
    clear hK K
    go_upto_region 18 with fail
    refine wp_world (fun w3 => Keep (· < w1.heap.size) w1 w3 ∧ w3.heap[P]? = some (.cells (rcC ⟨ob, a', a, kd' == 2, kd == 2⟩).toArray 56 (0, 0))) ⟨k2.setRow (b := P) _ (fun h => by have h : P < w1.heap.size := h; omega), heap_setRow z2' _⟩ ?_
    rintro w3 ⟨k3, hP3⟩
    have H3 := hid (And.intro k3 hP3)
    have HP := hid hP
    clear k2 z2 z2' k3 hP3 hP e1 e2 e3 f1 f3 rsz r1 HAL
    -- the row, its box, the map
    have hrow1 : OwnS wS.heap.size w1 56 5 (.slice (some ⟨sg, 0, none⟩) (foundL rooms l j).length sc) ((foundL rooms l j).map rcC) := HI.out.row.keep H1.out.2 (fun b hb => ⟨(HI.out.row.lt hb).2, fun e => HI.out.ne (e ▸ hb)⟩)
    rw [hRS.out] at hrow1 ⊢
    have HR3 := hid (hrow1.keep H3.out.1 (fun b hb => (hrow1.lt hb).2))
    have hM3 := H1.out.1.keep H3.out.1 H1.out.1.lt
    have HM3 := hid hM3
    have HK3 := hid (HKW.out.trans (H3.out.1.mono fun b (hb : b < wS.heap.size) => Nat.lt_of_lt_of_le hb HKW.out.size))
    have hNe := HI.out.ne
    have hsgP : sg ≠ P ∧ sg < w3.heap.size := ⟨by have := (hrow1.lt (j := sg) rfl).2; rw [HP.out] at this; omega, (HR3.out.lt (j := sg) rfl).2⟩
    have hncap : rs.length ≤ sc ∧ sc ≤ 9223372036854775807 := by
      obtain ⟨a, c, e, h1, h2⟩ := (HR3.out.at_ rcC_len5).form
      rw [List.length_map] at h1 e
      injection e with _ _ e3
      subst e3
      exact ⟨h1, h2⟩
    obtain ⟨hncap1, hncap2⟩ := hncap
    have cp : ∀ wx, Keep (fun _ => True) w3 wx → wx.cell? ⟨P, 0, none⟩ = some (.int .i64 ob) := fun wx kx => (kx.cell (x := ⟨P, 0, none⟩) trivial).trans (cell_at H3.out.2 0)
    have CP := hid cp
    have CR := hid (show ∀ wx, Keep (fun _ => True) w3 wx → ∀ k (hk : k < rs.length), wx.cell? ⟨sg, k * 5, none⟩ = some (.int .i64 rs[k].pl) from fun wx kx k hk => (kx.cell (x := ⟨sg, k * 5, none⟩) trivial).trans (HR3.out.in_place rcC_len5 k 0 (rcC rs[k]) _ (by rw [List.getElem?_map, List.getElem?_eq_getElem hk]; rfl) rfl).2.1)
    have HU := hid (fun k h1 h2 => upTo_lt ob rs k h1 HSO.out h2)
    have HG := hid (fun k h1 h2 => upTo_ge ob rs k h1 HSO.out h2)
    have hUle := upTo_le ob rs
    obtain ⟨U, hU⟩ : ∃ U, upTo ob rs = U := ⟨_, rfl⟩
    rw [hU] at HU HG hUle
    have HUU := hid hU
    clear hrow1 hM3 hNe cp hU
    obtain ⟨N, hN⟩ : ∃ N, rs.length = N := ⟨_, rfl⟩
    rw [hN] at hUle hncap1 hrl ⊢
    have HN := hid hN
    clear hN
    go_upto_block 4 with fail
    go_cut [13] from 139 to 153 (fun s13 wx => s13 = .int .i64 (U : Int) ∧ Keep (fun _ => True) w3 wx)
    case first =>
      go_wp2_with fail
      go_loopg [13] N (fun k s13 wx => U ≤ k ∧ k ≤ N ∧ s13 = .int .i64 (k : Int) ∧ Keep (fun _ => True) w3 wx)
      case atStart => exact ⟨hUle, Nat.le_refl _, rfl, Keep.refl _ _⟩
      case round =>
        obtain ⟨hUk, hkN, rfl, hkp⟩ := hrel
        have HKP := hid hkp
        rcases gk with _ | n
        · obtain rfl : U = 0 := by omega
          clear hkp
          go_wp2_with fail
          go_quiet (fail)
          go_wp2_with fail
          go_meet
          exact ⟨rfl, HKP.out.drewN nq⟩
        · have cP := CP.out _ hkp
          have cR := CR.out _ hkp n (by rw [HN.out]; omega)
          have t1 : decide ((0 : Int) < ((n + 1 : Nat) : Int)) = true := by rw [decide_eq_true_eq]; omega
          have t2 : ((n + 1 : Nat) : Int) - 1 = (n : Int) := by omega
          have t3 : (n : Int) < (N : Int) := by omega
          obtain ⟨q, hq⟩ : ∃ q, (rs[n]'(by rw [HN.out]; omega)).pl = q := ⟨_, rfl⟩
          rw [hq] at cR
          have hg := HG.out n
          have hu := HU.out n
          by_cases hp : ob < q
          · have hUn : U ≤ n := by
              rcases Nat.lt_or_ge n U with h | h
              · have h2 := hu h (by rw [HN.out]; omega)
                rw [hq] at h2; omega
              · exact h
            have t4 : decide (ob < q) = true := by simp [hp]
            clear hkp hq hg hu hp
            go_wp2_with fail
            go_quiet (fail)
            go_wp2_with fail
            go_roundg n
            case measure => omega
            case rel => exact ⟨hUn, by omega, by go_num, HKP.out.drewN nq⟩
          · obtain rfl : U = n + 1 := by
              rcases Nat.lt_or_ge n U with h | h
              · omega
              · have h2 := hg h (by rw [HN.out]; omega)
                rw [hq] at h2; omega
            have t4 : decide (ob < q) = false := by simp [hp]
            clear hkp hq hg hu hp
            go_wp2_with fail
            go_quiet (fail)
            go_wp2_with fail
            go_meet
            exact ⟨rfl, HKP.out.drewN nq⟩
    case rest =>
      obtain ⟨rfl, hkc⟩ := hcut
      have hRc := HR3.out.keep hkc (fun _ _ => trivial)
      rw [HN.out] at hRc
      have RC := hid hRc
      have hPc := (hkc.block P trivial).trans H3.out.2
      have RGP := hid (range_whole hPc)
      have hPl : P < wc.heap.size := (Array.getElem?_eq_some_iff.1 hPc).1
      have rsz := rc_size ⟨ob, a', a, kd' == 2, kd == 2⟩
      have hUN : (U : Int) ≤ (N : Int) := by omega
      have hUC : (U : Int) ≤ (sc : Int) := by omega
      have hNC : (N : Int) ≤ (sc : Int) := by omega
      have HKC := hid hkc
      have HSP := hid (show ∀ wx, Keep (· < wc.heap.size) wc wx → wx.rangeAt P 0 (rcC ⟨ob, a', a, kd' == 2, kd == 2⟩) from fun wx kx q u hu => (kx.cell (x := ⟨P, 0 + q, none⟩) hPl).trans (range_whole hPc q u hu))
      clear hkc hRc hPc
      go_upto_region 21 with fail
      refine wp_region_plan [true, true, true, true, false, true, true, true, false, false, false] (.free 0 (.free 1 (.free 2 (.free 3 (.free 5 (.free 6 (.free 7 (.one 4 (.one 8 (.one 9 (.last 10))))))))))) (fun wx => wx.rangeAt P 0 (rcC ⟨ob, a', a, kd' == 2, kd == 2⟩)) (by kernel_rfl) (by kernel_rfl) RGP.out ?_
      iterate 3 (refine plan_free rfl rfl (fun K hK => ?_); go_simp; refine hK _ ?_; clear hK K)
      refine plan_load rfl rfl 56 (.tmp 12) rfl P 0 rfl [.int .i64 ob, .int .i64 a', .int .i64 a, .bool (kd' == 2), .bool (kd == 2)] _ (fun w0 h0 => h0) Tryd.underlying56 rfl rsz (fun K hK => ?_); refine hK _ ?_; clear hK K
      iterate 3 (refine plan_free rfl rfl (fun K hK => ?_); go_simp; refine hK _ ?_; clear hK K)
      obtain ⟨X, hX⟩ : ∃ X : Addr, (if sc = U then some ({ block := sg, off := 0 } : Addr) else some { block := sg, off := U * 5 }) = some X := by
        by_cases h : sc = U
        · exact ⟨_, if_pos h⟩
        · exact ⟨_, if_neg h⟩
      rw [hX]
      have HXX := hid hX
      clear hX
      refine plan_one rfl rfl (fun K hK => ?_); go_simp
      refine hK _ _ ⟨HSP.out _ ((Keep.refl _ _).alloc _ (fun _ h => h)).drew, ?_⟩; clear hK K
      refine plan_world (fun wx => Keep (· < wc.heap.size) wc wx ∧ wx.heap[wc.heap.size]? = some (.cells (rcC ⟨ob, a', a, kd' == 2, kd == 2⟩).toArray 56 (0, 0))) ⟨((Keep.refl _ _).alloc _ (fun _ h => h)).drew, heap_alloc_new wc _⟩ ?_
      rintro wx ⟨kx, hR0⟩
      obtain ⟨r, hr⟩ : ∃ r : Rc, (⟨ob, a', a, kd' == 2, kd == 2⟩ : Rc) = r := ⟨_, rfl⟩
      rw [hr] at HSP HFD hR0
      have HRR := hid hr
      rw [hr]
      clear hr
      obtain ⟨R, hR⟩ : ∃ R, wc.heap.size = R := ⟨_, rfl⟩
      have hRl : R < wx.heap.size := by rw [← hR]; exact (Array.getElem?_eq_some_iff.1 hR0).1
      have hlit : OwnS R wx 56 5 (.slice (some ⟨R, 0, none⟩) 1 1) ([r].map rcC) := ⟨rfl, .inr ⟨R, 1, (rcC r).toArray, rfl, Nat.le_refl _, hR ▸ hR0, Nat.le_refl _, by decide, rfl, rfl⟩⟩
      have hRCl := RC.out.lt (j := sg) rfl
      have hdrop : AtS wx (fun _ => True) 5 (.slice (some X) (N - U) (sc - U)) ((rs.drop U).map rcC) := by
        by_cases h : sc = U
        · have : rs.drop U = [] := List.drop_eq_nil_of_le (by rw [HN.out]; omega)
          rw [this]
          exact ⟨_, _, _, rfl, by simp; omega, by omega, by unfold maxLen; omega, fun i x hx => by simp at hx⟩
        · have hX := HXX.out
          rw [if_neg h] at hX
          rw [← Option.some.inj hX]
          have hdrop0 := AtS.drop (RC.out.at_ rcC_len5) U (by rw [List.length_map, HN.out]; exact hUle)
          rw [← List.map_drop, Nat.zero_add] at hdrop0
          exact (hdrop0.keep kx (fun b hb => by have hb : some sg = some b := hb; injection hb with hb; omega)).mono (fun _ _ => trivial)
      have htake := ((RC.out.take rcC_len5 U (by rw [List.length_map, HN.out]; exact hUle)).keep kx (fun b hb => by have hb : some sg = some b := hb; injection hb with hb; omega))
      rw [← List.map_take] at htake
      have hBx : wS.heap.size ≤ wx.heap.size := Nat.le_trans HK3.out.size (Nat.le_trans HKC.out.size kx.size)
      have HX := hid (And.intro hlit (And.intro hdrop (And.intro htake (And.intro kx hBx))))
      have hsgR : sg < R := by rw [← hR]; exact hRCl.2
      have hPR : P < R := by rw [← hR]; exact hPl
      have hMR : M < R := by rw [← hR]; exact Nat.lt_of_lt_of_le HM3.out.lt HKC.out.size
      rw [hR]
      have HRW := hid hR
      clear kx hR0 hlit hdrop htake hBx hR hRCl
      refine plan_app rfl rfl (.tmp 158) (.tmp 161) 26 26 rfl _ (rc_append R wx _ (.slice (some ⟨R, 0, none⟩) 1 1) _ _ _ (fun _ => True) [r] (rs.drop U) HX.out.1 HX.out.2.1 (by rw [List.length_drop, HN.out, List.length_singleton]; omega) (Nat.le_of_lt hRl)) ?_
      rintro v1 w4 ⟨q1, k4, o1⟩
      have K4 := hid k4
      refine ⟨HSP.out _ (HX.out.2.2.2.1.trans (k4.mono fun b hb => ⟨Nat.lt_of_lt_of_le hb HX.out.2.2.2.1.size, fun e => by have e : some R = some b := e; injection e with e; have := HRW.out; omega⟩)), ?_⟩
      obtain ⟨g1, n1, c1, rfl⟩ : ∃ g1 n1 c1, v1 = .slice (some ⟨g1, 0, none⟩) n1 c1 := by
        rcases q1.2 with ⟨_, h⟩ | ⟨g1, c1, cur, h, _⟩
        · simp at h
        · exact ⟨g1, _, c1, h⟩
      have h1R : R ≤ g1 := (q1.lt (j := g1) rfl).1
      have Q1 := hid q1
      have htk := HX.out.2.2.1.keep k4 (fun b hb => by have hb : some sg = some b := hb; injection hb with hb; exact ⟨by omega, fun e => by have e : some R = some b := e; injection e with e; omega⟩)
      have TK := hid htk
      have hz4 : wS.heap.size ≤ w4.heap.size := Nat.le_trans HX.out.2.2.2.2 k4.size
      clear q1 k4 o1 htk
      try simp only [Act.put]
      refine plan_app rfl rfl (.tmp 156) (.tmp 162) 26 26 rfl _ (rc_append wS.heap.size w4 _ (.slice (some ⟨sg, 0, none⟩) U sc) _ _ _ _ (rs.take U) ([r] ++ rs.drop U) TK.out (Q1.out.at_ rcC_len5) (by rw [List.length_append, List.length_take, List.length_drop, HN.out, List.length_singleton]; omega) hz4) ?_
      rintro v2 w5 ⟨q2, k5, o2⟩
      have K5 := hid k5
      have KK := hid (show Keep (fun b => b < wc.heap.size ∧ b ≠ sg) wc w5 from ((HX.out.2.2.2.1.mono fun b (hb : b < wc.heap.size ∧ b ≠ sg) => hb.1).trans ((K4.out.mono fun b (hb : b < wc.heap.size ∧ b ≠ sg) => ⟨Nat.lt_of_lt_of_le hb.1 HX.out.2.2.2.1.size, fun e => by have e : some R = some b := e; injection e with e; have := HRW.out; omega⟩))).trans (k5.mono fun b (hb : b < wc.heap.size ∧ b ≠ sg) => ⟨Nat.lt_of_lt_of_le hb.1 (Nat.le_trans HX.out.2.2.2.1.size K4.out.size), fun e => by have e : some sg = some b := e; injection e with e; exact hb.2 e.symm⟩))
      refine ⟨fun q u hu => (KK.out.cell (x := ⟨P, 0 + q, none⟩) ⟨by have := HRW.out; omega, fun e => hsgP.1 e.symm⟩).trans (HSP.out wc (Keep.refl _ _) q u hu), ?_⟩
      have Q2 := hid q2
      have O2 := hid o2
      clear q2 k5 o2
      try simp only [Act.put]
      refine plan_last rfl rfl (fun K hK => ?_); go_simp
      refine hK _ _ ?_; clear hK K
      have hrpl : r.pl = ob := by rw [← HRR.out]
      have hins : insR r rs = rs.take U ++ ([r] ++ rs.drop U) := by rw [insR_upTo, hrpl, HUU.out]; rfl
      have hfin : RfIn wS w5 rooms l (j + 1) M v2 := by
        have hfl : foundL rooms l (j + 1) = rs.take U ++ ([r] ++ rs.drop U) := by rw [HFD.out, hins]
        have hMsg : M ≠ sg := fun e => HI.out.ne (by rw [e]; rfl)
        refine ⟨by rw [hfl]; exact Q2.out, ?_, ?_, HI.out.mb, ?_, ?_⟩
        · rcases Q2.out.2 with ⟨_, h⟩ | ⟨g2, c2, cur, h, _⟩
          · simp at h
          · rw [List.length_map] at h
            exact ⟨g2, c2, by rw [hfl]; exact h⟩
        · refine ⟨mput t ob (.bool true), (HM3.out.keep HKC.out trivial).keep KK.out ⟨Nat.lt_of_lt_of_le HM3.out.lt HKC.out.size, hMsg⟩, ?_, fun c => ?_⟩
          · have := length_put_le t ob (.bool true)
            have := HTG.out.1
            omega
          · have hany : (rs.take U ++ ([r] ++ rs.drop U)).any (fun r => r.pl == c) = (ob == c || rs.any fun r => r.pl == c) := by
              rw [List.any_append, List.any_append]
              conv => rhs; rw [← List.take_append_drop U rs, List.any_append]
              simp only [List.any_cons, List.any_nil, Bool.or_false, hrpl]
              cases (rs.take U).any (fun r => r.pl == c) <;> simp
            rw [mget_put, hfl, hany, HTG.out.2.1]
            by_cases e : ob = c
            · simp [e]
            · simp [e]
        · intro e
          rcases O2.out M e with h | h
          · exact hMsg (by have h : some sg = some M := h; injection h with h; exact h.symm)
          · have := K4.out.size
            omega
        · exact HK3.out.trans ((HKC.out.mono fun _ _ => trivial).trans (KK.out.mono fun b (hb : b < wS.heap.size) => ⟨Nat.lt_of_lt_of_le hb (Nat.le_trans HK3.out.size HKC.out.size), by have := (RC.out.lt (j := sg) rfl).1; omega⟩))
      exact HK.out _ _ _ _ _ _ _ _ _ _ _ _ _ _ _ _ _ _ _ _ _ _ _ _ _ _ _ _ _ _ _ _ _ _ _ _ _ _ _ _ _ _ _ _ _ _ _ _ _ _ _ _ _ _ _ _ _ _ _ _ _ _ _ _ _ _ _ _ _ _ _ _ _ _ _ _ _ _ _ _ _ _ _ _ _ _ _ _ _ _ _ _ _ _ _ _ _ _ _ _ _ _ _ _ _ _ _ _ _ _ _ _ _ _ _ _ _ _ _ _ _ _ _ _ _ _ _ _ _ _ _ _ _ _ _ _ _ _ _ _ _ _ _ _ _ _ _ _ _ _ _ _ _  _ _ hfin
end Go.Proofs.YtalihehmbiohlaaDoor
