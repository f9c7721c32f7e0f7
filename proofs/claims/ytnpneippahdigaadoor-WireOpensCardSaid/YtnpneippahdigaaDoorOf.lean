/-
  Step by step: 'Of', 'Equal' of package digest.
-/
import Derived.Test.YtnpneippahdigaaDoorSum2
namespace Go.Proofs.YtnpneippahdigaaDoor
open Go.RowKit Go.Proofs.Mem

theorem sum_length {s : Sha.St} (h : Good s) : s.sum.length = 32 := by
  have hz : ∀ k (t : Sha.St), Good t → Good (Sha.St.zeros k t) := by
    intro k
    induction k with
    | zero => exact fun t h => h
    | succ k ih =>
      intro t ht
      unfold Sha.St.zeros
      split
      · exact ht
      · exact ih _ (put_good ht (by decide))
  have hp : Good s.padded := take_good (hz 64 _ (put_good h (by decide))) (fun y hy => be8_lt hy)
  unfold Sha.St.sum
  match s.padded.ws, hp.1 with
  | [a, b, c, d, e, f, g, i], _ => rfl
theorem sum_lt {s : Sha.St} : ∀ x ∈ s.sum, x < 256 := by
  intro x hx
  unfold Sha.St.sum at hx
  obtain ⟨w, _, hw⟩ := List.mem_flatMap.1 hx
  simp only [Sha.be4, List.mem_cons, List.not_mem_nil, or_false] at hw
  rcases hw with rfl | rfl | rfl | rfl <;> exact Nat.mod_lt _ (by decide)
theorem of_length {xs : List Nat} (h : ∀ x ∈ xs, x < 256) : (Sha.of xs).length = 32 := sum_length (take_good new_good h)
theorem of_lt {xs : List Nat} : ∀ x ∈ Sha.of xs, x < 256 := sum_lt

theorem info32 (F : List Nat) (h : F.length = 32) : (Tryd.prog.info? 47).map (·.size) = some (ints .u8 F).toArray.size := by rw [List.size_toArray, ints_length, h]; kernel_rfl
theorem ints_all (k : IntKind) (F : List Nat) : (ints k F).toArray.all (·.oneCell') = true := by rw [Array.all_eq_true_iff_forall_mem]; intro v hv; exact ints_one _ _ v (by simpa using hv)

set_option maxRecDepth 100000 in
set_option maxHeartbeats 1000000 in
theorem of_walk (v : Value) (xs : List Nat) (w : World) (p : Nat → Prop) (hx : ∀ x ∈ xs, x < 256) (hn : xs.length < 1152921504606846976) (hT : TurnsAt w) (hv : Cells w p v (ints .u8 xs)) : Calls Tryd.prog 98 #[v] w fun e w' => e = .returned (.agg (ints .u8 (Sha.of xs)).toArray) ∧ Keep (· < w.heap.size) w w' := by
  have Hv := hid (hv.lt.mono (fun _ h => h.1))
  have HT := hid hT
  clear hv hT
  go_enter Tryd.func98, Tryd.ntmps98
  go_wp2_with fail
  refine calls_world (fun w0 => w0.heap.size = w.heap.size + 1 ∧ Keep (· < w.heap.size) w w0 ∧ w0.heap[w.heap.size]? = some (.cells (ints .u8 (List.replicate 32 0)).toArray 47 (0, 0))) ⟨by simp, (Keep.refl _ _).alloc _ (fun _ h => h), heap_alloc_new w _⟩ ?_
  rintro w0 ⟨z0, k0, R0⟩
  refine (new_walk w0).mono ?_
  rintro e w1 ⟨rfl, k1, z1, h1⟩
  rw [z0] at h1 z1 ⊢
  have kk : Keep (· < w.heap.size) w w1 := k0.trans (k1.mono (fun k h => by omega))
  have R1 : w1.heap[w.heap.size]? = some (.cells (ints .u8 (List.replicate 32 0)).toArray 47 (0, 0)) := (k1.block _ (by omega)).trans R0
  have H1 := hid (And.intro h1 (And.intro kk R1))
  have Z1 := hid z1
  obtain ⟨c, hc⟩ : ∃ c, c = w.heap.size + 1 := ⟨_, rfl⟩
  rw [← hc] at H1 ⊢
  have HCc := hid hc
  clear k0 k1 z0 z1 h1 kk R1 R0 hc w0
  go_wp2_with fail
  refine (take_walk c Sha.St.new v xs w1 new_good (by simp [Sha.St.new]; omega) hx (HT.out.keep H1.out.2.1 HT.out.lt) H1.out.1 ((Hv.out.keep H1.out.2.1 (fun _ h => h)).mono (fun k h => by have := HCc.out; omega))).mono ?_
  rintro e w2 ⟨rfl, k2, h2⟩
  have hc' := HCc.out
  have hz' := Z1.out
  have k12 : Keep (· < w.heap.size) w w2 := H1.out.2.1.trans (k2.mono (fun k h => by omega))
  have R2 : w2.heap[w.heap.size]? = some (.cells (ints .u8 (List.replicate 32 0)).toArray 47 (0, 0)) := (k2.block _ (by omega)).trans H1.out.2.2
  have H2 := hid (And.intro h2 (And.intro k12 R2))
  have hs2 : w.heap.size + 1 < w2.heap.size := by have := k2.size; omega
  clear k2 h2 k12 R2 H1 hc' hz' Z1
  go_wp2_with fail
  refine (sum_walk c _ w2 (take_good new_good hx) (by rw [Sha.take_n]; simp [Sha.St.new]; omega) (HT.out.keep H2.out.2.1 HT.out.lt) H2.out.1).mono ?_
  rintro e w3 ⟨rfl, k3⟩
  have R3 : w3.heap[w.heap.size]? = some (.cells (ints .u8 (List.replicate 32 0)).toArray 47 (0, 0)) := (k3.block _ (by omega)).trans H2.out.2.2
  have k13 : Keep (· < w.heap.size) w w3 := H2.out.2.1.trans (k3.mono (fun k h => by omega))
  obtain ⟨F, hF⟩ : ∃ F, (Sha.St.new.take xs).sum = F := ⟨_, rfl⟩
  have hFl : F.length = 32 := by rw [← hF]; exact sum_length (take_good new_good hx)
  have hi32 := info32 F hFl
  have hold : (ints .u8 (List.replicate 32 0)).toArray.size = (ints .u8 F).toArray.size := by simp [ints_length, hFl]
  have H3 := hid (And.intro R3 (And.intro k13 hF))
  rw [hF]
  clear R3 k13 hF k3 H2 hFl
  go_wp2_with (refine wpList_store_row rfl 47 (.tmp 2) (.tmp 6) rfl w.heap.size (ints .u8 F).toArray rfl rfl 47 _ H3.out.1 hi32 hold (ints_all _ _) ?_)
  refine bodyPost_ret (v := .agg (ints .u8 F).toArray) (results_cell_row rfl _ _ w.heap.size 47 _ (0, 0) _ rfl (heap_setRow H3.out.1 _) Tryd.underlying47 rfl hi32) rfl ?_
  exact ⟨by rw [← H3.out.2.2]; rfl, H3.out.2.1.setRow _ (by simp)⟩
end Go.Proofs.YtnpneippahdigaaDoor
