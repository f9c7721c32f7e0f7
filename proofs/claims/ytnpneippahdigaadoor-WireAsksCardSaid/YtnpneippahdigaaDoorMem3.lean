/-
  More on worlds and blocks: bytes as a string. No program in sight.
-/
import Derived.Test.YtnpneippahdigaaDoorMem2
import Derived.Laws.BytesArg
namespace Go.Proofs.Mem
open Go.RowKit

/-- bytes as a string. -/
def bstr (xs : List Nat) : ByteArray := ⟨(xs.map UInt8.ofNat).toArray⟩

theorem strOfNums_ints (xs : List Nat) : strOfNums (xs.map Int.ofNat) = bstr xs := by
  simp [strOfNums, bstr, List.map_map, Function.comp_def]

theorem convert_bytes {P : Program} (src e dst : TypeId) (hs : P.underlying src = some (.slice e)) (he : P.underlying e = some (.int .u8)) (hd : P.underlying dst = some .string) (w : World) {p : Nat → Prop} {a : Option Addr} {len cap : Nat} {xs : List Nat} (h : Cells w p (.slice a len cap) (ints .u8 xs)) :
    (convert src dst (.slice a len cap)).run P w = .ok (.string (bstr xs)) w := by
  obtain ⟨a', len', cap', e', h1, h2, h3, h4⟩ := h
  cases e'
  rw [ints_length] at h1
  subst h1
  by_cases h0 : 0 < xs.length
  · obtain ⟨blk, off, rfl, _, hc⟩ := h4 h0
    rw [← strOfNums_ints]
    refine run_convert_bytes_arg w src e hs he blk off xs.length cap (xs.map Int.ofNat) (by simp) (fun i hi => ?_) dst hd
    rw [hc i hi, ints_get _ _ _ hi]
    simp [List.getD_eq_getElem?_getD, List.getElem?_eq_getElem hi]
  · obtain rfl : xs = [] := List.eq_nil_of_length_eq_zero (by omega)
    cases a with
    | none => exact run_convert_bytes_nil w src e hs he _ _ dst hd
    | some a =>
      rw [run_convert_bytes_string w src dst e _ _ cap hs he hd]
      have := run_bytesToString (P := P) w a 0 cap [] (by simp [loadCells, loadCellsFrom])
      exact this
end Go.Proofs.Mem
