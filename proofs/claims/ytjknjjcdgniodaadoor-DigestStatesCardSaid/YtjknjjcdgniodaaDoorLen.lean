/-
  Step by step: 'Len' of package digest.
-/
import Derived.Test.YtjknjjcdgniodaaDoorSum
namespace Go.Proofs.YtjknjjcdgniodaaDoor
open Go.RowKit Go.Proofs.Mem

theorem len_walk (b : Nat) (s : Sha.St) (w : World) (hg : Good s) (hn : s.n < 4611686018427387904) (hb : StAt w b s) : Calls Tryd.prog 21 #[.pointer (some ⟨b, 0, none⟩)] w fun e w' => e = .returned (.int .i64 (s.n : Int)) ∧ w = w' := by
  have c72 : w.cell? ⟨b, 72, none⟩ = some (.int .u64 (s.n : Int)) := by rw [cell_at hb]; exact st_num hg.1 hg.2.1
  have hn2 : (s.n : Int) < 4611686018427387904 := by omega
  clear hb hn
  go_enter Tryd.func21, Tryd.ntmps21
  go_wp2
  go_ret
  exact ⟨rfl, rfl⟩
end Go.Proofs.YtjknjjcdgniodaaDoor
