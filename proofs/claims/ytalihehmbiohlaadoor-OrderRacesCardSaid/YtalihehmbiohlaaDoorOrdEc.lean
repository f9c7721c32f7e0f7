/-
  Step by step: Before of the document's answer of layer 18: the table of what happens before what.
-/
import Derived.Test.YtalihehmbiohlaaDoorOrdEb
namespace Go.Proofs.YtalihehmbiohlaaDoor
open Go.RowKit Go.Maps Go.Proofs.Mem Go.Proofs.Txt Go.Proofs.Ord Go.Proofs.Mp

def bools (n : Nat) (f : Nat → Bool) : List Value := (List.range n).map fun k => Value.bool (f k)
theorem bools_length (n : Nat) (f : Nat → Bool) : (bools n f).length = n := by simp [bools]
theorem bools_get (n : Nat) (f : Nat → Bool) (k : Nat) (h : k < n) : (bools n f)[k]? = some (.bool (f k)) := by simp [bools, h]
theorem bools_set (n : Nat) (f : Nat → Bool) (k : Nat) (x : Bool) : (bools n f).set k (.bool x) = bools n (upd f k x) := by
  apply List.ext_getElem?
  intro i
  rw [List.getElem?_set]
  by_cases hi : i < n
  · rw [bools_get _ _ _ hi, bools_get _ _ _ hi]
    unfold upd
    by_cases e : k = i
    · subst e; simp [bools_length, hi]
    · rw [if_neg e, if_neg (fun h => e h.symm)]
  · rw [List.getElem?_eq_none (l := bools n f) (by rw [bools_length]; omega), List.getElem?_eq_none (l := bools n (upd f k x)) (by rw [bools_length]; omega)]
    split
    · split
      · next h => rw [bools_length] at h; omega
      · rfl
    · rfl
theorem bools_congr {n : Nat} {f g : Nat → Bool} (h : ∀ k, f k = g k) : bools n f = bools n g := by
  have : f = g := funext h
  rw [this]
def rowV (b n : Nat) : Value := .slice (some ⟨b, 0, none⟩) n n
/-- a table of bools, younger than w0: its first m rows. -/
structure TabIn (w0 wr : World) (T n m : Nat) (bs : Nat → Nat) (F : Nat → Nat → Bool) : Prop where
  tab : ∃ vs : List Value, wr.heap[T]? = some (.cells vs.toArray 51 (0, 0)) ∧ vs.length = n ∧ ∀ i, i < m → vs[i]? = some (rowV (bs i) n)
  rows : ∀ i, i < m → wr.heap[bs i]? = some (.cells (bools n (F i)).toArray 4 (0, 0))
  old : ∀ i, i < m → w0.heap.size ≤ bs i ∧ bs i ≠ T
  inj : ∀ i j, i < m → j < m → bs i = bs j → i = j
  base : w0.heap.size ≤ T
  keep : Keep (· < w0.heap.size) w0 wr
section
variable {w0 wr wx : World} {T n m i k : Nat} {bs : Nat → Nat} {F G : Nat → Nat → Bool}
theorem TabIn.ltT (h : TabIn w0 wr T n m bs F) : T < wr.heap.size := by
  obtain ⟨vs, h1, _⟩ := h.tab
  exact (Array.getElem?_eq_some_iff.1 h1).1
theorem TabIn.ltR (h : TabIn w0 wr T n m bs F) (hi : i < m) : bs i < wr.heap.size := (Array.getElem?_eq_some_iff.1 (h.rows i hi)).1
theorem TabIn.next (h : TabIn w0 wr T n m bs F) (kk : Keep (· < wr.heap.size) wr wx) : TabIn w0 wx T n m bs F := by
  obtain ⟨vs, h1, h2⟩ := h.tab
  exact ⟨⟨vs, (kk.block T h.ltT).trans h1, h2⟩, fun i hi => (kk.block _ (h.ltR hi)).trans (h.rows i hi), h.old, h.inj, h.base, h.keep.trans (kk.mono fun b hb => Nat.lt_of_lt_of_le hb h.keep.size)⟩
theorem TabIn.congr (h : TabIn w0 wr T n m bs F) (e : ∀ i, i < m → ∀ k, F i k = G i k) : TabIn w0 wr T n m bs G :=
  ⟨h.tab, fun i hi => by rw [← bools_congr (e i hi)]; exact h.rows i hi, h.old, h.inj, h.base, h.keep⟩
theorem TabIn.cellT (h : TabIn w0 wr T n m bs F) (hi : i < m) : wr.cell? ⟨T, i, none⟩ = some (.slice (some ⟨bs i, 0, none⟩) n n) := by
  obtain ⟨vs, h1, _, h3⟩ := h.tab
  rw [cell_at h1, h3 i hi]; rfl
theorem TabIn.cellR (h : TabIn w0 wr T n m bs F) (hi : i < m) (hk : k < n) : wr.cell? ⟨bs i, k, none⟩ = some (.bool (F i k)) := by
  rw [cell_at (h.rows i hi), bools_get _ _ _ hk]
theorem TabIn.frR (h : TabIn w0 wr T n m bs F) (hi : i < m) (k : Nat) : wr.frozen? ⟨bs i, k, none⟩ = false := frozen_at (h.rows i hi) k
theorem TabIn.set (h : TabIn w0 wr T n m bs F) (hi : i < m) (x : Bool) : TabIn w0 (wr.setCell ⟨bs i, k, none⟩ (.bool x)) T n m bs (upd F i (upd (F i) k x)) := by
  have kk : Keep (fun b => b ≠ bs i) wr (wr.setCell ⟨bs i, k, none⟩ (.bool x)) := (Keep.refl _ _).setCell _ (by simp)
  obtain ⟨vs, h1, h2⟩ := h.tab
  refine ⟨⟨vs, (kk.block T (fun e => (h.old i hi).2 e.symm)).trans h1, h2⟩, fun j hj => ?_, h.old, h.inj, h.base, h.keep.trans (kk.mono fun b (hb : b < w0.heap.size) => by have := (h.old i hi).1; omega)⟩
  by_cases e : j = i
  · subst e
    have e1 : upd F j (upd (F j) k x) j = upd (F j) k x := by unfold upd; rw [if_pos rfl]
    rw [set_at (h.rows j hj) k, bools_set, e1]
  · have e1 : upd F i (upd (F i) k x) j = F j := by unfold upd; rw [if_neg e]
    rw [kk.block (bs j) (fun e2 => e (h.inj j i hj hi e2)), e1]
    exact h.rows j hj
/-- a row more. -/
theorem TabIn.more (h : TabIn w0 wr T n m bs F) (hm : m < n) (kk : Keep (· < wr.heap.size) wr wx) (hb : wx.heap[wr.heap.size]? = some (.cells (bools n fun _ => false).toArray 4 (0, 0))) :
    TabIn w0 (wx.setCell ⟨T, m, none⟩ (.slice (some ⟨wr.heap.size, 0, none⟩) n n)) T n (m + 1) (upd bs m wr.heap.size) (upd F m fun _ => false) := by
  have hx := h.next kk
  have k2 : Keep (fun b => b ≠ T) wx (wx.setCell ⟨T, m, none⟩ (.slice (some ⟨wr.heap.size, 0, none⟩) n n)) := (Keep.refl _ _).setCell _ (by simp)
  have hbs : ∀ i, i < m → upd bs m wr.heap.size i = bs i := fun i hi => by unfold upd; rw [if_neg (by omega)]
  have hbm : upd bs m wr.heap.size m = wr.heap.size := by unfold upd; rw [if_pos rfl]
  have hF : ∀ i, i < m → upd F m (fun _ => false) i = F i := fun i hi => by unfold upd; rw [if_neg (by omega)]
  have hFm : upd F m (fun _ => false) m = fun _ => false := by unfold upd; rw [if_pos rfl]
  obtain ⟨vs, h1, h2, h3⟩ := hx.tab
  refine ⟨⟨vs.set m (.slice (some ⟨wr.heap.size, 0, none⟩) n n), set_at h1 m _, by rw [List.length_set]; exact h2, fun i hi => ?_⟩, fun i hi => ?_, fun i hi => ?_, fun i j hi hj e => ?_, h.base, hx.keep.trans (k2.mono fun b (hb : b < w0.heap.size) => by have := h.base; omega)⟩
  · rw [List.getElem?_set]
    by_cases e : m = i
    · subst e; rw [if_pos rfl, if_pos (by omega), hbm]; rfl
    · rw [if_neg e, h3 i (by omega), hbs i (by omega)]
  · by_cases e : i = m
    · subst e; rw [hbm, hFm, k2.block _ (by have := h.ltT; omega)]; exact hb
    · rw [hbs i (by omega), hF i (by omega), k2.block _ ((h.old i (by omega)).2)]; exact hx.rows i (by omega)
  · by_cases e : i = m
    · subst e; rw [hbm]; exact ⟨h.keep.size, by have := h.ltT; omega⟩
    · rw [hbs i (by omega)]; exact h.old i (by omega)
  · by_cases e1 : i = m
    · subst e1
      by_cases e2 : j = i
      · exact e2.symm
      · rw [hbm, hbs j (by omega)] at e
        have := h.ltR (i := j) (by omega)
        omega
    · by_cases e2 : j = m
      · subst e2
        rw [hbm, hbs i (by omega)] at e
        have := h.ltR (i := i) (by omega)
        omega
      · rw [hbs i (by omega), hbs j (by omega)] at e
        exact h.inj i j (by omega) (by omega) e
end
theorem make_gen {P : Program} (T E : TypeId) (z : Value) (bytes : Nat) (hT : P.underlying T = some (.slice E)) (hinf : (P.info? E).map (fun i => (i.zero, i.size, i.bytes)) = some (some z, 1, bytes)) (hzc : z.cells = #[z]) (n : Nat) (hn : n ≤ 1000) (hby : bytes ≤ 1000) (w : World) :
    (Instr.makeSlice T (.int .i64 (n : Int)) (.int .i64 (n : Int))).run P w = .ok (.slice (some ⟨w.heap.size, 0, none⟩) n n) (w.alloc (.cells (List.replicate n z).toArray E)) := by
  obtain ⟨i, hi, hz, hs, hb⟩ := info_parts hinf
  have hb' : (i.bytes : Int) * (n : Int) ≤ 281474976710656 := by
    have h : i.bytes * n ≤ 1000 * 1000 := by rw [hb]; exact Nat.mul_le_mul hby hn
    have h2 : ((i.bytes * n : Nat) : Int) ≤ 281474976710656 := by omega
    rwa [Int.natCast_mul] at h2
  rw [run_make w T E i z hT hi hz .i64 .i64 (n : Int) (n : Int) (by omega) (by omega) hb' (by omega)]
  simp only [Int.toNat_natCast, hs, Nat.mul_one]
  congr 3
  apply Array.ext
  · simp [madeCells]
  · intro j h1 h2
    simp [madeCells, hzc, Nat.mod_one]
theorem make_rows (n : Nat) (hn : n ≤ 1000) (w : World) : (Instr.makeSlice 47 (.int .i64 (n : Int)) (.int .i64 (n : Int))).run Tryd.prog w = .ok (.slice (some ⟨w.heap.size, 0, none⟩) n n) (w.alloc (.cells (List.replicate n (Value.slice none 0 0)).toArray 51)) :=
  make_gen 47 51 (.slice none 0 0) 24 Tryd.underlying47 (by kernel_rfl) rfl n hn (by decide) w
theorem make_bools (n : Nat) (hn : n ≤ 1000) (w : World) : (Instr.makeSlice 51 (.int .i64 (n : Int)) (.int .i64 (n : Int))).run Tryd.prog w = .ok (.slice (some ⟨w.heap.size, 0, none⟩) n n) (w.alloc (.cells (bools n fun _ => false).toArray 4)) := by
  have := make_gen 51 4 (.bool false) 1 Tryd.underlying51 (by kernel_rfl) rfl n hn (by decide) w
  rwa [show bools n (fun _ => false) = List.replicate n (.bool false) by unfold bools; rw [List.map_const', List.length_range]]
set_option maxRecDepth 100000 in
set_option maxHeartbeats 8000000 in
theorem table_walk (rooms : List Int) (l : List Ev) (v rv : Value) (w : World) (p q : Nat → Prop) (hv : EvsAt w p v l) (hr : Cells w q rv (rooms.map (Value.int .i64))) (hok : l.all Ev.ok = true) (hl : l.length ≤ 1000) (hrl : rooms.length ≤ 1000) (hrw : ∀ r ∈ rooms, r ≤ 9223372036854775807) :
    Calls Tryd.prog 17 #[v, rv] w fun e w' => ∃ T bs, e = .returned (.slice (some ⟨T, 0, none⟩) l.length l.length) ∧ TabIn w w' T l.length l.length bs (hbB rooms l) := by
  have HV := hid (hv.lt.mono (q := fun b => b < w.heap.size) (fun _ h => h.1))
  have HR := hid (hr.lt.mono (q := fun b => b < w.heap.size) (fun _ h => h.1))
  have HRW := hid hrw
  have HOK := hid hok
  obtain ⟨va, vc, rfl, hc1, hc2⟩ := hv.form
  obtain ⟨ra, rc, rfl⟩ : ∃ a c, rv = .slice a rooms.length c := by
    obtain ⟨a, n, c, e, h1, _⟩ := hr
    rw [List.length_map] at h1
    exact ⟨a, c, by rw [e, h1]⟩
  have HD := hid (show ∀ wx, Keep (· < w.heap.size) w wx → ∀ i j : Nat, i < l.length → j < l.length → Calls Tryd.prog 31 #[.slice va l.length vc, .slice ra rooms.length rc, .int .i64 (i : Int), .int .i64 (j : Int)] wx fun e w' => e = .returned (.bool (directB rooms l i j)) ∧ Keep (· < wx.heap.size) wx w' from fun wx kx i j hi hj =>
    direct_walk rooms l _ _ i j wx _ _ (HV.out.keep kx (fun _ h => h)) (HR.out.keep kx (fun _ h => h)) hi hj hl hrl HRW.out)
  clear hv hr hok hrw
  have mk := make_rows l.length hl
  go_enter Tryd.func17, Tryd.ntmps17
  go_upto_region 3 with fail
  clear mk
  refine wp_world (fun w1 => TabIn w w1 w.heap.size l.length 0 (fun _ => 0) (hbB rooms l)) ⟨⟨_, heap_alloc_new w _, List.length_replicate .., fun i hi => by omega⟩, fun i hi => by omega, fun i hi => by omega, fun i j hi => by omega, Nat.le_refl _, (Keep.refl _ _).alloc _ (fun _ h => h)⟩ ?_
  rintro w1 h1
  obtain ⟨T, hT⟩ : ∃ T, w.heap.size = T := ⟨_, rfl⟩
  have H1 := hid (show TabIn w w1 T l.length 0 (fun _ => 0) (hbB rooms l) from hT ▸ h1)
  rw [hT]
  clear h1 hT
  go_loopg [14] l.length (fun k s14 wr => ∃ (j : Nat) (bs : Nat → Nat), j + k = l.length ∧ s14 = .int .i64 (j : Int) ∧ TabIn w wr T l.length j bs (hbB rooms l))
  case atStart => exact ⟨0, _, by omega, rfl, H1.out⟩
  case round =>
    obtain ⟨j, bs, hjk, rfl, hin⟩ := hrel
    have HI := hid (And.intro hin hjk)
    by_cases hlt : j < l.length
    · have l0 : (j : Int) < (l.length : Int) := by omega
      obtain ⟨vs, hvs, hvl, hvg⟩ := hin.tab
      have ct : ∃ y, wr.cell? ⟨T, j, none⟩ = some y := ⟨vs[j], by rw [cell_at hvs]; exact List.getElem?_eq_getElem (by omega)⟩
      obtain ⟨y, ct⟩ := ct
      have ft : wr.frozen? ⟨T, j, none⟩ = false := frozen_at hvs j
      have zt := hin.ltT
      have mk := make_bools l.length hl
      clear hin hjk hvg hvs hvl vs
      go_wp2_with fail
      clear mk
      rw [← World.setCell_alloc_past (w := wr) (.cells (bools l.length fun _ => false).toArray 4) T j _ zt]
      refine wp_world (fun w2 => TabIn w w2 T l.length (j + 1) (upd bs j wr.heap.size) (upd (hbB rooms l) j (rowB rooms l j j))) ((HI.out.1.more hlt ((Keep.refl _ _).alloc _ (fun _ h => h)) (heap_alloc_new wr _)).congr fun i _ k => by
        unfold upd
        split
        · rw [row_none]
        · rfl) ?_
      rintro w2 h2
      obtain ⟨bs2, hbs2⟩ : ∃ b, upd bs j wr.heap.size = b := ⟨_, rfl⟩
      rw [hbs2] at h2
      have H2 := hid h2
      obtain ⟨B, hB⟩ : ∃ B, wr.heap.size = B := ⟨_, rfl⟩
      rw [hB]
      obtain ⟨gk0, rfl⟩ : ∃ g : Nat, g = gk := ⟨_, rfl⟩
      clear h2 hbs2 hB ct ft zt
      go_loopg [7] j (fun c s7 wx => c ≤ j ∧ s7 = .int .i64 ((c : Int) - 1) ∧ TabIn w wx T l.length (j + 1) bs2 (upd (hbB rooms l) j (rowB rooms l j c)))
      case atStart => exact ⟨Nat.le_refl _, rfl, H2.out⟩
      case round =>
        obtain ⟨hcj, rfl, hin⟩ := hrel
        have HX := hid (And.intro hin hcj)
        rcases gk with _ | i
        · have t1 : decide ((0 : Int) ≤ ((0 : Nat) : Int) - 1) = false := by decide
          clear hin hcj
          go_wp2_with fail
          trace_state
          go_roundg (gk0 - 1)
          case measure => have := HI.out.2; omega
          case rel =>
            refine ⟨j + 1, bs2, by have := HI.out.2; omega, by go_num, HX.out.1.congr fun i _ k => ?_⟩
            unfold upd
            split
            · next e => subst e; exact row_all HOK.out hlt
            · rfl
        · have hij : i < j := by omega
          have t1 : (((i + 1 : Nat) : Int) - 1) = (i : Int) := by omega
          rw [t1]
          have cT := hin.cellT (i := j) (by omega)
          have cR := hin.cellR (i := j) (k := i) (by omega) (by omega)
          have fR := hin.frR (i := j) (by omega) i
          rw [show upd (hbB rooms l) j (rowB rooms l j (i + 1)) j = rowB rooms l j (i + 1) by unfold upd; rw [if_pos rfl]] at cR
          obtain ⟨b, hb⟩ : ∃ b, rowB rooms l j (i + 1) i = b := ⟨_, rfl⟩
          obtain ⟨d, hd⟩ : ∃ d, directB rooms l i j = d := ⟨_, rfl⟩
          have HBD := hid (And.intro hb hd)
          have l2 : (i : Int) < (l.length : Int) := by omega
          rw [hb] at cR
          have HDD := hid (HD.out _ hin.keep i j (by omega) hlt)
          rw [hd] at HDD
          clear hb hd hin hcj t1
          cases b
          · go_wp2_with fail
            refine HDD.out.mono ?_
            rintro e w3 ⟨rfl, k3⟩
            have H3 := hid (HX.out.1.next k3)
            clear k3
            cases d
            · go_wp2_with fail
              go_roundg i
              case measure => omega
              case rel =>
                refine ⟨by omega, by go_num, H3.out.congr fun i' _ k => ?_⟩
                unfold upd
                split
                · rw [row_skip (i := i) hlt hij (by rw [HBD.out.1, HBD.out.2]; rfl)]
                · rfl
            · have cT3 := H3.out.cellT (i := j) (by omega)
              have cR3 := H3.out.cellR (i := j) (k := i) (by omega) (by omega)
              have fR3 := H3.out.frR (i := j) (by omega) i
              go_upto_region 11 with fail
              have HS := hid ((H3.out.set (i := j) (k := i) (by omega) true).congr (G := upd (hbB rooms l) j (fun q => rowB rooms l j (i + 1) q || q == i || (decide (q < 0) && hbB rooms l i q))) fun i' _ q => by
                unfold upd
                by_cases e : i' = j
                · rw [if_pos e, if_pos rfl, if_pos e]
                  by_cases e2 : q = i
                  · rw [if_pos e2, e2]; simp
                  · rw [if_neg e2]; simp [e2]
                · rw [if_neg e, if_neg e, if_neg e])
              obtain ⟨w4, hw4⟩ : ∃ w4, w3.setCell ⟨bs2 j, i, none⟩ (.bool true) = w4 := ⟨_, rfl⟩
              rw [hw4] at HS ⊢
              obtain ⟨gk1, hgk1⟩ : ∃ g : Nat, g = i := ⟨_, rfl⟩
              clear hw4 cT3 cR3 fR3 cT cR fR
              go_wp2_with fail
              go_loopg [8] i (fun c s8 wx => ∃ k : Nat, k + c = i ∧ s8 = .int .i64 (k : Int) ∧ TabIn w wx T l.length (j + 1) bs2 (upd (hbB rooms l) j (fun q => rowB rooms l j (i + 1) q || q == i || (decide (q < k) && hbB rooms l i q))))
              case atStart => exact ⟨0, by omega, rfl, HS.out⟩
              case round =>
                obtain ⟨k, hkc, rfl, hin⟩ := hrel
                have HK := hid (And.intro hin hkc)
                by_cases hki : k < i
                · have l3 : (k : Int) < (i : Int) := by omega
                  have l4 : (k : Int) < (l.length : Int) := by omega
                  have cTj := hin.cellT (i := j) (by omega)
                  have cTi := hin.cellT (i := i) (by omega)
                  have cj := hin.cellR (i := j) (k := k) (by omega) (by omega)
                  have ci := hin.cellR (i := i) (k := k) (by omega) (by omega)
                  have fj := hin.frR (i := j) (by omega) k
                  rw [show upd (hbB rooms l) j (fun q => rowB rooms l j (i + 1) q || q == i || (decide (q < k) && hbB rooms l i q)) j = (fun q => rowB rooms l j (i + 1) q || q == i || (decide (q < k) && hbB rooms l i q)) by unfold upd; rw [if_pos rfl]] at cj
                  rw [show upd (hbB rooms l) j (fun q => rowB rooms l j (i + 1) q || q == i || (decide (q < k) && hbB rooms l i q)) i = hbB rooms l i by unfold upd; rw [if_neg (by omega)]] at ci
                  simp only [show (k == i) = false by simp; omega, show decide (k < k) = false by simp, Bool.false_and, Bool.or_false] at cj
                  obtain ⟨x1, hx1⟩ : ∃ x, rowB rooms l j (i + 1) k = x := ⟨_, rfl⟩
                  obtain ⟨x2, hx2⟩ : ∃ x, hbB rooms l i k = x := ⟨_, rfl⟩
                  have HXX := hid (And.intro hx1 hx2)
                  rw [hx1] at cj
                  rw [hx2] at ci
                  clear hin hkc hx1 hx2
                  go_upto_region 14 with fail
                  cases x1
                  · refine wp_region_plan [true, true, true, true, true, true, true, true, true, true, true, true, true, true, true, true, true, true, true, true, true, true, false] (.free 0 (.free 1 (.free 2 (.free 3 (.free 4 (.free 5 (.free 6 (.free 7 (.free 8 (.free 9 (.free 10 (.free 11 (.free 12 (.free 13 (.free 14 (.free 15 (.free 16 (.free 17 (.free 18 (.free 19 (.free 20 (.free 21 (.last 22))))))))))))))))))))))) (fun wx => wx.cell? ⟨T, j, none⟩ = some (.slice (some ⟨bs2 j, 0, none⟩) l.length l.length) ∧ wx.cell? ⟨T, i, none⟩ = some (.slice (some ⟨bs2 i, 0, none⟩) l.length l.length) ∧ wx.cell? ⟨bs2 j, k, none⟩ = some (.bool false) ∧ wx.cell? ⟨bs2 i, k, none⟩ = some (.bool x2)) (by kernel_rfl) (by kernel_rfl) ⟨cTj, cTi, cj, ci⟩ ?_
                    iterate 3 (refine plan_free rfl rfl (fun K hK => ?_); go_simp; refine hK _ ?_; clear hK K)
                    refine plan_held (.slice (some ⟨bs2 j, 0, none⟩) l.length l.length) rfl rfl (fun w0 h0 => by obtain ⟨h1, h2, h3, h4⟩ := h0; go_simp) (fun K hK => ?_); refine hK _ ?_; clear hK K
                    iterate 4 (refine plan_free rfl rfl (fun K hK => ?_); go_simp; refine hK _ ?_; clear hK K)
                    refine plan_held (.slice (some ⟨bs2 j, 0, none⟩) l.length l.length) rfl rfl (fun w0 h0 => by obtain ⟨h1, h2, h3, h4⟩ := h0; go_simp) (fun K hK => ?_); refine hK _ ?_; clear hK K
                    iterate 2 (refine plan_free rfl rfl (fun K hK => ?_); go_simp; refine hK _ ?_; clear hK K)
                    refine plan_held (.bool false) rfl rfl (fun w0 h0 => by obtain ⟨h1, h2, h3, h4⟩ := h0; go_simp) (fun K hK => ?_); refine hK _ ?_; clear hK K
                    iterate 1 (refine plan_free rfl rfl (fun K hK => ?_); go_simp; refine hK _ ?_; clear hK K)
                    iterate 3 (refine plan_free rfl rfl (fun K hK => ?_); go_simp; refine hK _ ?_; clear hK K)
                    refine plan_held (.slice (some ⟨bs2 i, 0, none⟩) l.length l.length) rfl rfl (fun w0 h0 => by obtain ⟨h1, h2, h3, h4⟩ := h0; go_simp) (fun K hK => ?_); refine hK _ ?_; clear hK K
                    iterate 2 (refine plan_free rfl rfl (fun K hK => ?_); go_simp; refine hK _ ?_; clear hK K)
                    refine plan_held (.bool x2) rfl rfl (fun w0 h0 => by obtain ⟨h1, h2, h3, h4⟩ := h0; go_simp) (fun K hK => ?_); refine hK _ ?_; clear hK K
                    iterate 2 (refine plan_free rfl rfl (fun K hK => ?_); go_simp; refine hK _ ?_; clear hK K)
                    refine plan_last rfl rfl (fun K hK => ?_); go_simp
                    refine hK _ _ ?_
                    clear hK K
                    have HS5 := hid ((HK.out.1.next ((Keep.refl _ _).drew)).set (i := j) (k := k) (by omega) x2)
                    go_wp2_with fail
                    go_roundg (gk - 1)
                    case measure => have := HK.out.2; omega
                    case rel =>
                      refine ⟨k + 1, by have := HK.out.2; omega, by go_num, HS5.out.congr fun i' _ q => ?_⟩
                      unfold upd
                      by_cases e : i' = j
                      · rw [if_pos e, if_pos rfl, if_pos e]
                        by_cases e2 : q = k
                        · subst e2
                          have h2 := HXX.out.1
                          rw [if_pos rfl]
                          rw [decide_eq_true (show q < q + 1 by omega), ← HXX.out.2] at *
                          rw [h2]; simp [show ¬ q = i by omega]
                        · rw [if_neg e2, show decide (q < k + 1) = decide (q < k) by simp; omega]
                      · rw [if_neg e, if_neg e, if_neg e]
                  · refine wp_region_plan [true, true, true, true, true, true, true, true, true, true, true, true, true, true, true, true, true, true, true, true, true, true, false] (.free 0 (.free 1 (.free 2 (.free 3 (.free 4 (.free 5 (.free 6 (.free 7 (.free 8 (.free 9 (.free 10 (.free 11 (.free 12 (.free 13 (.free 14 (.free 15 (.free 16 (.free 17 (.free 18 (.free 19 (.free 20 (.free 21 (.last 22))))))))))))))))))))))) (fun wx => wx.cell? ⟨T, j, none⟩ = some (.slice (some ⟨bs2 j, 0, none⟩) l.length l.length) ∧ wx.cell? ⟨T, i, none⟩ = some (.slice (some ⟨bs2 i, 0, none⟩) l.length l.length) ∧ wx.cell? ⟨bs2 j, k, none⟩ = some (.bool true) ∧ wx.cell? ⟨bs2 i, k, none⟩ = some (.bool x2)) (by kernel_rfl) (by kernel_rfl) ⟨cTj, cTi, cj, ci⟩ ?_
                    iterate 3 (refine plan_free rfl rfl (fun K hK => ?_); go_simp; refine hK _ ?_; clear hK K)
                    refine plan_held (.slice (some ⟨bs2 j, 0, none⟩) l.length l.length) rfl rfl (fun w0 h0 => by obtain ⟨h1, h2, h3, h4⟩ := h0; go_simp) (fun K hK => ?_); refine hK _ ?_; clear hK K
                    iterate 4 (refine plan_free rfl rfl (fun K hK => ?_); go_simp; refine hK _ ?_; clear hK K)
                    refine plan_held (.slice (some ⟨bs2 j, 0, none⟩) l.length l.length) rfl rfl (fun w0 h0 => by obtain ⟨h1, h2, h3, h4⟩ := h0; go_simp) (fun K hK => ?_); refine hK _ ?_; clear hK K
                    iterate 2 (refine plan_free rfl rfl (fun K hK => ?_); go_simp; refine hK _ ?_; clear hK K)
                    refine plan_held (.bool true) rfl rfl (fun w0 h0 => by obtain ⟨h1, h2, h3, h4⟩ := h0; go_simp) (fun K hK => ?_); refine hK _ ?_; clear hK K
                    iterate 1 (refine plan_free rfl rfl (fun K hK => ?_); go_simp; refine hK _ ?_; clear hK K)
                    iterate 7 (refine plan_skip rfl rfl ?_)
                    iterate 2 (refine plan_free rfl rfl (fun K hK => ?_); go_simp; refine hK _ ?_; clear hK K)
                    refine plan_last rfl rfl (fun K hK => ?_); go_simp
                    refine hK _ _ ?_
                    clear hK K
                    have HS5 := hid ((HK.out.1.next ((Keep.refl _ _).drew)).set (i := j) (k := k) (by omega) true)
                    go_wp2_with fail
                    go_roundg (gk - 1)
                    case measure => have := HK.out.2; omega
                    case rel =>
                      refine ⟨k + 1, by have := HK.out.2; omega, by go_num, HS5.out.congr fun i' _ q => ?_⟩
                      unfold upd
                      by_cases e : i' = j
                      · rw [if_pos e, if_pos rfl, if_pos e]
                        by_cases e2 : q = k
                        · subst e2
                          have h2 := HXX.out.1
                          rw [if_pos rfl]
                          rw [decide_eq_true (show q < q + 1 by omega), ← HXX.out.2] at *
                          rw [h2]; simp
                        · rw [if_neg e2, show decide (q < k + 1) = decide (q < k) by simp; omega]
                      · rw [if_neg e, if_neg e, if_neg e]
                · obtain rfl : i = k := by omega
                  clear hin hkc
                  go_wp2_with fail
                  go_roundg i
                  case measure => omega
                  case rel =>
                    refine ⟨by omega, by go_num, HK.out.1.congr fun i' _ q => ?_⟩
                    unfold upd
                    split
                    · show (rowB rooms l j (i + 1) q || q == i || (decide (q < i) && hbB rooms l i q)) = rowB rooms l j i q
                      rw [row_step hij, HBD.out.2, Bool.true_and, Bool.or_assoc]
                      congr 2
                      by_cases hq : q < i
                      · simp [hq]
                      · rw [hb_high (by omega)]; simp
                    · rfl
          · go_wp2_with fail
            go_roundg i
            case measure => omega
            case rel =>
              refine ⟨by omega, by go_num, HX.out.1.congr fun i' _ k => ?_⟩
              unfold upd
              split
              · rw [row_skip (i := i) hlt hij (by rw [HBD.out.1]; rfl)]
              · rfl
    · obtain rfl : l.length = j := by omega
      have HX := hid hin
      clear hin hjk
      go_wp2_with fail
      go_ret
      exact ⟨T, bs, rfl, HX.out⟩
end Go.Proofs.YtalihehmbiohlaaDoor
