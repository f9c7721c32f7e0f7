/-
  Step by step: the chapter's example of layer 20; how many races bytes name.
-/
import Derived.Test.YtnpneippahdigaaDoorRepD
import Derived.Test.YtnpneippahdigaaDoorNumErr
namespace Go.Proofs.YtnpneippahdigaaDoor
open Go.RowKit Go.Proofs.Mem Go.Proofs.Txt

theorem bytes_parts (r : Rp.Rep) (z : List Nat) : ∃ a b : List Nat, a.length = 19 ∧ Rp.bytes r ++ z = a ++ (Rp.num (Wr.u64 (r.races.length : Nat)) 2 ++ b) :=
  ⟨Rp.nums 1 [r.o, r.f, r.g] ++ Rp.nums 8 [r.n] ++ Rp.nums 4 [r.at_, r.steps], r.races.flatMap Rp.raceBytes ++ z, by simp [Rp.nums_length], by simp [Rp.bytes, Rp.headBytes, Rp.nums, List.append_assoc]⟩
theorem cnt_num (n : Nat) (h : n ≤ 65535) : Drw.num8 (Rp.num (Wr.u64 (n : Nat)) 2) = n := by
  rw [Wr.u64_nat n (by omega)]
  show Drw.num8 [n / 256 ^ 1 % 256, n / 256 ^ 0 % 256] = n
  rw [num8_two _ _ (Nat.mod_lt _ (by decide)) (Nat.mod_lt _ (by decide))]
  omega
theorem cnt_bytes (r : Rp.Rep) (z : List Nat) (h : r.races.length ≤ 65535) : cntOf (Rp.bytes r ++ z) = r.races.length := by
  obtain ⟨a, b, ha, e⟩ := bytes_parts r z
  unfold cntOf
  rw [e, List.drop_append_of_le_length (by omega), List.drop_of_length_le (by omega), List.nil_append, List.take_append_of_le_length (by rw [Rp.num_length]; exact Nat.le_refl _), List.take_of_length_le (by rw [Rp.num_length]; exact Nat.le_refl _)]
  exact cnt_num _ h
theorem cnt_take (b : List Nat) (m : Nat) (h : 21 ≤ m) : cntOf (b.take m) = cntOf b := by
  unfold cntOf
  rw [List.drop_take, List.take_take, show min 2 (m - 19) = 2 by omega]
theorem bytes_lt (r : Rp.Rep) : ∀ x ∈ Rp.bytes r, x < 256 := by
  intro x hx
  have hn : ∀ (k : Nat) (l : List Int), ∀ y ∈ Rp.nums k l, y < 256 := by
    intro k l y hy
    obtain ⟨n, _, h⟩ := List.mem_flatMap.1 hy
    exact Rp.num_lt _ _ y h
  simp only [Rp.bytes, Rp.headBytes, List.mem_append, or_assoc] at hx
  rcases hx with h | h | h | h | h
  · exact hn _ _ _ h
  · exact hn _ _ _ h
  · exact hn _ _ _ h
  · exact hn _ _ _ h
  · obtain ⟨q, _, h⟩ := List.mem_flatMap.1 h
    rw [raceBytes_eq] at h
    simp only [List.mem_append, or_assoc] at h
    rcases h with h | h | h
    · exact hn _ _ _ h
    · exact hn _ _ _ h
    · exact hn _ _ _ h

/-- the example's report. -/
def exRep : Rp.Rep := ⟨1, 0, 0, 0, 0, 3, []⟩
theorem exRep_bytes : Rp.bytes exRep = [1, 0, 0, 0, 0, 0, 0, 0, 0, 0, 0, 0, 0, 0, 0, 0, 0, 0, 3, 0, 0] := by decide
set_option maxRecDepth 100000 in
set_option maxHeartbeats 1000000 in
theorem alive20_walk (w : World) (ev : Value) (he : w.cell? ⟨2, 0, none⟩ = some ev) (hl : 2 < w.heap.size) :
    Calls Tryd.prog 15 #[] w fun e w' => e = .returned (.bool true) ∧ Keep (· < w.heap.size) w w' := by
  have HP := hid (rput_good exRep (.slice none 0 0) ev w _ (RacesAt.nil w (fun _ => True)) he hl (by decide))
  clear he
  go_enter Tryd.func15, Tryd.ntmps15
  go_wp2_with fail
  refine HP.out.mono ?_
  rintro e w1 ⟨b, rfl, g⟩
  rw [exRep_bytes] at g
  have K := hid g.low
  obtain ⟨blk, off, c, rfl, hnc, hcm, _, hcell⟩ := g.row.cells.open_ (by decide)
  have c0 : w1.cell? ⟨blk, off, none⟩ = some (.int .u8 1) := hcell 0 (by decide)
  have c18 : w1.cell? ⟨blk, off + 18, none⟩ = some (.int .u8 3) := hcell 18 (by decide)
  clear hcell g HP
  simp only [List.length_cons, List.length_nil, Nat.zero_add, Nat.reduceAdd] at hnc ⊢
  go_wp2_with fail
  go_ret
  exact ⟨rfl, K.out⟩
end Go.Proofs.YtnpneippahdigaaDoor
