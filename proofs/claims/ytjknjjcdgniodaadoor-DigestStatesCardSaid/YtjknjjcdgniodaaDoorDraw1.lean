/-
  Step by step: 'open', 'New' of package draw.
-/
import Derived.Test.YtjknjjcdgniodaaDoorAlive
import Derived.Test.YtjknjjcdgniodaaDoorDrawP
import Derived.Test.YtjknjjcdgniodaaDoorMem6
namespace Go.Proofs.YtjknjjcdgniodaaDoor
open Go.RowKit Go.Proofs.Mem

/-- a stream's cells: its root, a block, the block's number; what stands behind. -/
def strC (root blk : List Nat) (at' : Int) (rest : List Value) : List Value := ints .u8 root ++ (ints .u8 blk ++ (Value.int .i64 at' :: rest))
theorem strC_length {root blk : List Nat} (hr : root.length = 32) (hb : blk.length = 32) (at' : Int) (rest : List Value) : (strC root blk at' rest).length = 65 + rest.length := by
  simp [strC, ints_length, hr, hb]; omega
theorem strC_one (root blk : List Nat) (at' : Int) (rest : List Value) (h : ∀ v ∈ rest, v.oneCell' = true) : (strC root blk at' rest).toArray.all (·.oneCell') = true := by
  rw [Array.all_eq_true_iff_forall_mem]
  intro v hv
  simp only [List.mem_toArray, strC, List.mem_append, List.mem_cons] at hv
  rcases hv with hv | hv | rfl | hv
  · exact ints_one _ _ v hv
  · exact ints_one _ _ v hv
  · rfl
  · exact h v hv
def zeros32 : List Nat := List.replicate 32 0
theorem zeros32_length : zeros32.length = 32 := by simp [zeros32]
theorem lay_stream : structLay Tryd.prog 95 = some (strC zeros32 zeros32 0 [], [(0, 32), (32, 32), (64, 1)]) := by kernel_rfl
theorem lay_draw : structLay Tryd.prog 98 = some (strC zeros32 zeros32 0 [.int .i64 0, .int .i64 0], [(0, 65), (65, 1), (66, 1)]) := by kernel_rfl
theorem build_stream (F : List Nat) (hF : F.length = 32) (w : World) : (Instr.build 95 #[(0, .agg (ints .u8 F).toArray), (2, .int .i64 (-1))]).run Tryd.prog w = .ok (.agg (strC F zeros32 (-1) []).toArray) w := by
  refine run_build w _ _ _ ?_
  rw [built_struct lay_stream]
  have hz := zeros32_length
  rw [fill_cons (off := 0) (size := 32) (xs := ints .u8 F) rfl rfl (by rw [ints_length, hF]) (by simp [strC_length hz hz])]
  have e1 : lay (strC zeros32 zeros32 0 []) 0 (ints .u8 F) = strC F zeros32 0 [] := lay_mid [] (ints .u8 zeros32) _ (ints .u8 F) 0 rfl (by simp [ints_length, hF, hz])
  rw [e1, fill_cons (off := 64) (size := 1) (xs := [.int .i64 (-1)]) rfl rfl rfl (by simp [strC_length hF hz])]
  have e2 : lay (strC F zeros32 0 []) 64 [.int .i64 (-1)] = strC F zeros32 (-1) [] := by
    have := lay_mid (ints .u8 F ++ ints .u8 zeros32) [.int .i64 0] [] [.int .i64 (-1)] 64 (by simp [ints_length, hF, hz]) rfl
    simpa [strC, List.append_assoc] using this
  rw [e2]
  rfl
theorem build_draw (F B : List Nat) (a : Int) (hF : F.length = 32) (hB : B.length = 32) (w : World) : (Instr.build 98 #[(0, .agg (strC F B a []).toArray)]).run Tryd.prog w = .ok (.agg (strC F B a [.int .i64 0, .int .i64 0]).toArray) w := by
  refine run_build w _ _ _ ?_
  rw [built_struct lay_draw]
  have hz := zeros32_length
  rw [fill_cons (off := 0) (size := 65) (xs := strC F B a []) rfl rfl (by rw [strC_length hF hB]; rfl) (by simp [strC_length hz hz])]
  have e1 : lay (strC zeros32 zeros32 0 [.int .i64 0, .int .i64 0]) 0 (strC F B a []) = strC F B a [.int .i64 0, .int .i64 0] := by
    have := lay_mid [] (strC zeros32 zeros32 0 []) [.int .i64 0, .int .i64 0] (strC F B a []) 0 rfl (by rw [strC_length hF hB, strC_length hz hz])
    simpa [strC, List.append_assoc] using this
  rw [e1]
  rfl
theorem size_stream {root blk : List Nat} (hr : root.length = 32) (hb : blk.length = 32) (a : Int) : (Tryd.prog.info? 95).map (·.size) = some (strC root blk a []).toArray.size := by
  rw [List.size_toArray, strC_length hr hb]; kernel_rfl

set_option maxRecDepth 100000 in
set_option maxHeartbeats 1000000 in
theorem open_walk (v : Value) (xs : List Nat) (w : World) (p : Nat → Prop) (hx : ∀ x ∈ xs, x < 256) (hn : xs.length < 1152921504606846976) (hT : TurnsAt w) (hv : Cells w p v (ints .u8 xs)) :
    Calls Tryd.prog 49 #[v] w fun e w' => e = .returned (.agg (strC (Sha.of xs) zeros32 (-1) []).toArray) ∧ Keep (· < w.heap.size) w w' := by
  have Hv := hid (hv.lt.mono (fun _ h => h.1))
  have HT := hid hT
  clear hv hT
  go_enter Tryd.func49, Tryd.ntmps49
  go_wp2_with fail
  obtain ⟨Z, hZ⟩ : ∃ Z, Tryd.zeroCells95 = Z := ⟨_, rfl⟩
  rw [hZ]
  have hZl : Z.size = 65 := by rw [← hZ]; kernel_rfl
  clear hZ
  refine calls_world (fun w0 => w0.heap.size = w.heap.size + 1 ∧ Keep (· < w.heap.size) w w0 ∧ w0.heap[w.heap.size]? = some (.cells Z 95 (0, 0))) ⟨by simp, (Keep.refl _ _).alloc _ (fun _ h => h), heap_alloc_new w _⟩ ?_
  rintro w0 ⟨z0, k0, R0⟩
  refine (of_walk v xs w0 _ hx hn (HT.out.keep k0 HT.out.lt) (Hv.out.keep k0 (fun _ h => h))).mono ?_
  rintro e w1 ⟨rfl, k1⟩
  obtain ⟨F, hF⟩ : ∃ F, Sha.of xs = F := ⟨_, rfl⟩
  have hFl : F.length = 32 := by rw [← hF]; exact of_length hx
  rw [hF]
  have bd := fun w0 => build_stream F hFl w0
  have R1 := (k1.block _ (by omega)).trans R0
  have hi := size_stream hFl zeros32_length (-1)
  have H1 := hid (And.intro R1 (And.intro hF (k0.trans (k1.mono (fun k h => by omega)))))
  have hold : Z.size = (strC F zeros32 (-1) []).toArray.size := by rw [hZl, List.size_toArray, strC_length hFl zeros32_length]; rfl
  have h1 := strC_one F zeros32 (-1) [] (by simp)
  clear R1 hF k1 k0 z0 R0 hZl
  go_wp2_with (first | ((with_reducible refine wpList_bld rfl 95 [(0, .tmp 4), (2, .const (.int .i64 (-1)))] rfl (.agg (strC F zeros32 (-1) []).toArray) ?hr ?_); case hr => exact bd _) | refine wpList_store_row rfl 95 (.tmp 2) (.tmp 5) rfl w.heap.size (strC F zeros32 (-1) []).toArray rfl rfl 95 _ H1.out.1 hi hold h1 ?_)
  refine bodyPost_ret (v := .agg (strC F zeros32 (-1) []).toArray) (results_cell_row rfl _ _ w.heap.size 95 _ (0, 0) _ rfl (heap_setRow H1.out.1 _) Tryd.underlying95 rfl hi) rfl ?_
  exact ⟨by rw [← H1.out.2.1], H1.out.2.2.setRow _ (by simp)⟩

/-- block b is a stream (and what stands behind it). -/
def StreamAt (w : World) (T b : Nat) (root : List Nat) (rest : List Value) : Prop :=
  ∃ (blk : List Nat) (a : Int), w.heap[b]? = some (.cells (strC root blk a rest).toArray T (0, 0)) ∧ blk.length = 32 ∧ (a = -1 ∨ ∃ k : Nat, a = (k : Int) ∧ blk = Drw.blockOf root k)
def drawRest (taken now : Nat) : List Value := [.int .i64 (taken : Int), .int .i64 (now : Int)]
/-- block b is a tenant's stream and clock. -/
def DrawAt (w : World) (b : Nat) (root : List Nat) (taken now : Nat) : Prop := StreamAt w 98 b root (drawRest taken now)

set_option maxRecDepth 100000 in
set_option maxHeartbeats 1000000 in
theorem drawnew_walk (v : Value) (xs : List Nat) (w : World) (p : Nat → Prop) (hx : ∀ x ∈ xs, x < 256) (hn : xs.length < 1152921504606846976) (hT : TurnsAt w) (hv : Cells w p v (ints .u8 xs)) :
    Calls Tryd.prog 32 #[v] w fun e w' => ∃ b, e = .returned (.pointer (some ⟨b, 0, none⟩)) ∧ w.heap.size ≤ b ∧ Keep (· < w.heap.size) w w' ∧ DrawAt w' b (Sha.of xs) 0 0 := by
  have HC := hid (open_walk v xs w p hx hn hT hv)
  clear hv hT
  go_enter Tryd.func32, Tryd.ntmps32
  go_wp2_with fail
  refine HC.out.mono ?_
  rintro e w1 ⟨rfl, k1⟩
  obtain ⟨F, hF⟩ : ∃ F, Sha.of xs = F := ⟨_, rfl⟩
  have hFl : F.length = 32 := by rw [← hF]; exact of_length hx
  rw [hF]
  have bd := fun w0 => build_draw F zeros32 (-1) hFl zeros32_length w0
  have H1 := hid k1
  have z1 := k1.size
  have HF := hid hF
  clear k1 HC hF
  go_wp2_with ((with_reducible refine wpList_bld rfl 98 [(0, .tmp 4)] rfl (.agg (strC F zeros32 (-1) [.int .i64 0, .int .i64 0]).toArray) ?hr ?_); case hr => exact bd _)
  go_ret
  refine ⟨w1.heap.size, rfl, z1, H1.out.trans (((Keep.refl (· < w1.heap.size) w1).alloc _ (fun _ h => h)).mono (fun k h => by omega)), ?_⟩
  exact ⟨zeros32, -1, by rw [HF.out]; exact heap_alloc_new w1 _, zeros32_length, .inl rfl⟩
end Go.Proofs.YtjknjjcdgniodaaDoor
