/-
  NARROWER THAN 'FOR EVERY INPUT', by the rows' own cells (each row's printed sentence says how): DigestPads: laid · DigestPieces: laid · DigestEquals: laid · DigestTags: laid · DigestStates: laid · DigestOf: laid · DrawApart: laid · DrawNumbers: laid · DrawTicks: laid · DrawRange: laid · DrawWords: laid · DrawPlays: laid.
  DERIVED. THE GIVEN ROWS OF THIS SEAT. 12 by the template 'for every input the law returns true; each argument reads behind the call as it read before'; 0 by the template 'total and deterministic' (their statements: YtjknjjcdgniodaaDoorTotals.lean).
  GIVEN WITH THE SEED: the statements are not yours to turn. If you find one false, say at which input.
  Laid BY PROGRAM, IN A SANDBOX (cutbox-rows.mjs): the forced cells as the released guide's own fill.sh prints them over the translation 2482ba16a08c1f8c… (all of the seat's roots in one cut). By AI agents, Wed Nov 11 2026. No macro, syntax, notation, axiom, sorry.
-/
import Derived.Test.YtjknjjcdgniodaaDoorChecked
import GoSem.Claim
import GoSem.ClaimJoined
import GoSem.ClaimMapViews
import Derived.JoinedTies
import Derived.KernelRfl
namespace Go.Proofs.YtjknjjcdgniodaaDoor
/- THE CELL 'sum', in the pinned program and in every row, IS THE sha256 OF THE DUMP (.gsa) THAT YtjknjjcdgniodaaDoorProg.lean LOADS. Nothing in Lean hashes anything: it is a label: what it is worth is what the hold of that sum in a sandbox is worth. -/
noncomputable def Tryd.pinned : Pinned := { name := "ytjknjjcdgniodaadoor", sum := "2482ba16a08c1f8ce689efc8f944f6b041384adc8a158a3e13f0b8f3057204a5", checked := Tryd.checked }
namespace Rows
def none {H : Type} : Left H := { results := [], args := [] }

/- WHAT THE LISTED PACKAGE-LEVEL VARIABLES READ AS WHEN THE CALL BEGINS. Each datum BY PROGRAM (the guide's laid-datum.mjs) off the statement by which the dump's own 'gosem.cut.vars' lays the variable. In a bare row this is a premise. The card (YtjknjjcdgniodaaDoorCards.lean) ties it to the program's text. -/
def laid_stockade_digest_turns {H : Type} : DataW H := .agg [.lit (.int .u32 1116352408), .lit (.int .u32 1899447441), .lit (.int .u32 3049323471), .lit (.int .u32 3921009573), .lit (.int .u32 961987163), .lit (.int .u32 1508970993), .lit (.int .u32 2453635748), .lit (.int .u32 2870763221), .lit (.int .u32 3624381080), .lit (.int .u32 310598401), .lit (.int .u32 607225278), .lit (.int .u32 1426881987), .lit (.int .u32 1925078388), .lit (.int .u32 2162078206), .lit (.int .u32 2614888103), .lit (.int .u32 3248222580), .lit (.int .u32 3835390401), .lit (.int .u32 4022224774), .lit (.int .u32 264347078), .lit (.int .u32 604807628), .lit (.int .u32 770255983), .lit (.int .u32 1249150122), .lit (.int .u32 1555081692), .lit (.int .u32 1996064986), .lit (.int .u32 2554220882), .lit (.int .u32 2821834349), .lit (.int .u32 2952996808), .lit (.int .u32 3210313671), .lit (.int .u32 3336571891), .lit (.int .u32 3584528711), .lit (.int .u32 113926993), .lit (.int .u32 338241895), .lit (.int .u32 666307205), .lit (.int .u32 773529912), .lit (.int .u32 1294757372), .lit (.int .u32 1396182291), .lit (.int .u32 1695183700), .lit (.int .u32 1986661051), .lit (.int .u32 2177026350), .lit (.int .u32 2456956037), .lit (.int .u32 2730485921), .lit (.int .u32 2820302411), .lit (.int .u32 3259730800), .lit (.int .u32 3345764771), .lit (.int .u32 3516065817), .lit (.int .u32 3600352804), .lit (.int .u32 4094571909), .lit (.int .u32 275423344), .lit (.int .u32 430227734), .lit (.int .u32 506948616), .lit (.int .u32 659060556), .lit (.int .u32 883997877), .lit (.int .u32 958139571), .lit (.int .u32 1322822218), .lit (.int .u32 1537002063), .lit (.int .u32 1747873779), .lit (.int .u32 1955562222), .lit (.int .u32 2024104815), .lit (.int .u32 2227730452), .lit (.int .u32 2361852424), .lit (.int .u32 2428436474), .lit (.int .u32 2756734187), .lit (.int .u32 3204031479), .lit (.int .u32 3329325298)]
def laid_stockade_api_ErrRange {H : Type} : DataW H := .iface "*errors.errorString" (.ptr (.agg [.lit (.string [115, 116, 111, 99, 107, 97, 100, 101, 58, 32, 114, 97, 110, 103, 101])]))
def laid_stockade_api_ErrText {H : Type} : DataW H := .iface "*errors.errorString" (.ptr (.agg [.lit (.string [115, 116, 111, 99, 107, 97, 100, 101, 58, 32, 116, 101, 120, 116])]))
def laid_stockade_api_ErrDepth {H : Type} : DataW H := .iface "*errors.errorString" (.ptr (.agg [.lit (.string [115, 116, 111, 99, 107, 97, 100, 101, 58, 32, 100, 101, 112, 116, 104])]))
def laid_stockade_api_ErrName {H : Type} : DataW H := .iface "*errors.errorString" (.ptr (.agg [.lit (.string [115, 116, 111, 99, 107, 97, 100, 101, 58, 32, 110, 97, 109, 101])]))
def laid_stockade_api_ErrType {H : Type} : DataW H := .iface "*errors.errorString" (.ptr (.agg [.lit (.string [115, 116, 111, 99, 107, 97, 100, 101, 58, 32, 116, 121, 112, 101])]))
def laid_stockade_api_ErrLarge {H : Type} : DataW H := .iface "*errors.errorString" (.ptr (.agg [.lit (.string [115, 116, 111, 99, 107, 97, 100, 101, 58, 32, 108, 97, 114, 103, 101])]))
def laid_stockade_api_ErrFull {H : Type} : DataW H := .iface "*errors.errorString" (.ptr (.agg [.lit (.string [115, 116, 111, 99, 107, 97, 100, 101, 58, 32, 102, 117, 108, 108])]))
def laid_stockade_api_ErrNone {H : Type} : DataW H := .iface "*errors.errorString" (.ptr (.agg [.lit (.string [115, 116, 111, 99, 107, 97, 100, 101, 58, 32, 110, 111, 110, 101])]))
def laid_stockade_api_ErrCode {H : Type} : DataW H := .iface "*errors.errorString" (.ptr (.agg [.lit (.string [115, 116, 111, 99, 107, 97, 100, 101, 58, 32, 99, 111, 100, 101])]))
def laid_stockade_api_ErrState {H : Type} : DataW H := .iface "*errors.errorString" (.ptr (.agg [.lit (.string [115, 116, 111, 99, 107, 97, 100, 101, 58, 32, 115, 116, 97, 116, 101])]))
def laid_stockade_api_ErrFrame {H : Type} : DataW H := .iface "*errors.errorString" (.ptr (.agg [.lit (.string [115, 116, 111, 99, 107, 97, 100, 101, 58, 32, 102, 114, 97, 109, 101])]))
def laid_stockade_api_ErrMac {H : Type} : DataW H := .iface "*errors.errorString" (.ptr (.agg [.lit (.string [115, 116, 111, 99, 107, 97, 100, 101, 58, 32, 109, 97, 99])]))
def laid_stockade_api_ErrReplay {H : Type} : DataW H := .iface "*errors.errorString" (.ptr (.agg [.lit (.string [115, 116, 111, 99, 107, 97, 100, 101, 58, 32, 114, 101, 112, 108, 97, 121])]))
def laid_stockade_api_ErrArena {H : Type} : DataW H := .iface "*errors.errorString" (.ptr (.agg [.lit (.string [115, 116, 111, 99, 107, 97, 100, 101, 58, 32, 97, 114, 101, 110, 97])]))
def laid_stockade_api_ErrClock {H : Type} : DataW H := .iface "*errors.errorString" (.ptr (.agg [.lit (.string [115, 116, 111, 99, 107, 97, 100, 101, 58, 32, 99, 108, 111, 99, 107])]))
def laid_stockade_api_ErrQuota {H : Type} : DataW H := .iface "*errors.errorString" (.ptr (.agg [.lit (.string [115, 116, 111, 99, 107, 97, 100, 101, 58, 32, 113, 117, 111, 116, 97])]))
def laid_stockade_api_ErrTenant {H : Type} : DataW H := .iface "*errors.errorString" (.ptr (.agg [.lit (.string [115, 116, 111, 99, 107, 97, 100, 101, 58, 32, 116, 101, 110, 97, 110, 116])]))

/-- 'stockadelaw03.DigestPads': WHATEVER THE INPUT: true; the input reads as it did. -/
def digestPadsSpec : ChangeSpec := { name := "digestPads", fn := fun _ => fun
  | [d1, d2, d3] => { results := [.lit (.bool true)], args := [d1, d2, d3] }
  | _ => none }
def digestPadsRow : OpenClaim := { program := "ytjknjjcdgniodaadoor", sum := "2482ba16a08c1f8ce689efc8f944f6b041384adc8a158a3e13f0b8f3057204a5", func := "stockade/stockadelaw03.DigestPads", spec := "digestPads", named := ["stockade/digest.turns"], apart := false, laid := [("stockade/digest.turns", laid_stockade_digest_turns)] }
def DigestPadsSaid : Prop := digestPadsRow.holds Tryd.pinned (OpenSpec.ofChange digestPadsSpec)

/-- ITS FALSE NEIGHBOUR: 'it returns false'. Refute it at one input. -/
def digestPadsWrong : ChangeSpec := { name := "digestPads", fn := fun _ => fun
  | [d1, d2, d3] => { results := [.lit (.bool false)], args := [d1, d2, d3] }
  | _ => none }
def DigestPadsWrongFalsely : Prop := digestPadsRow.holds Tryd.pinned (OpenSpec.ofChange digestPadsWrong)

/-- 'stockadelaw03.DigestPieces': WHATEVER THE INPUT: true; the input reads as it did. -/
def digestPiecesSpec : ChangeSpec := { name := "digestPieces", fn := fun _ => fun
  | [d1, d2] => { results := [.lit (.bool true)], args := [d1, d2] }
  | _ => none }
def digestPiecesRow : OpenClaim := { program := "ytjknjjcdgniodaadoor", sum := "2482ba16a08c1f8ce689efc8f944f6b041384adc8a158a3e13f0b8f3057204a5", func := "stockade/stockadelaw03.DigestPieces", spec := "digestPieces", named := ["stockade/digest.turns"], apart := false, laid := [("stockade/digest.turns", laid_stockade_digest_turns)] }
def DigestPiecesSaid : Prop := digestPiecesRow.holds Tryd.pinned (OpenSpec.ofChange digestPiecesSpec)

/-- ITS FALSE NEIGHBOUR: 'it returns false'. Refute it at one input. -/
def digestPiecesWrong : ChangeSpec := { name := "digestPieces", fn := fun _ => fun
  | [d1, d2] => { results := [.lit (.bool false)], args := [d1, d2] }
  | _ => none }
def DigestPiecesWrongFalsely : Prop := digestPiecesRow.holds Tryd.pinned (OpenSpec.ofChange digestPiecesWrong)

/-- 'stockadelaw03.DigestEquals': WHATEVER THE INPUT: true; the input reads as it did. -/
def digestEqualsSpec : ChangeSpec := { name := "digestEquals", fn := fun _ => fun
  | [d1, d2, d3] => { results := [.lit (.bool true)], args := [d1, d2, d3] }
  | _ => none }
def digestEqualsRow : OpenClaim := { program := "ytjknjjcdgniodaadoor", sum := "2482ba16a08c1f8ce689efc8f944f6b041384adc8a158a3e13f0b8f3057204a5", func := "stockade/stockadelaw03.DigestEquals", spec := "digestEquals", named := ["stockade/digest.turns"], apart := false, laid := [("stockade/digest.turns", laid_stockade_digest_turns)] }
def DigestEqualsSaid : Prop := digestEqualsRow.holds Tryd.pinned (OpenSpec.ofChange digestEqualsSpec)

/-- ITS FALSE NEIGHBOUR: 'it returns false'. Refute it at one input. -/
def digestEqualsWrong : ChangeSpec := { name := "digestEquals", fn := fun _ => fun
  | [d1, d2, d3] => { results := [.lit (.bool false)], args := [d1, d2, d3] }
  | _ => none }
def DigestEqualsWrongFalsely : Prop := digestEqualsRow.holds Tryd.pinned (OpenSpec.ofChange digestEqualsWrong)

/-- 'stockadelaw03.DigestTags': WHATEVER THE INPUT: true; the input reads as it did. -/
def digestTagsSpec : ChangeSpec := { name := "digestTags", fn := fun _ => fun
  | [d1, d2] => { results := [.lit (.bool true)], args := [d1, d2] }
  | _ => none }
def digestTagsRow : OpenClaim := { program := "ytjknjjcdgniodaadoor", sum := "2482ba16a08c1f8ce689efc8f944f6b041384adc8a158a3e13f0b8f3057204a5", func := "stockade/stockadelaw03.DigestTags", spec := "digestTags", inPlace := ["math/bits.Add64"], named := ["stockade/digest.turns"], apart := false, laid := [("stockade/digest.turns", laid_stockade_digest_turns)] }
def DigestTagsSaid : Prop := digestTagsRow.holds Tryd.pinned (OpenSpec.ofChange digestTagsSpec)

/-- ITS FALSE NEIGHBOUR: 'it returns false'. Refute it at one input. -/
def digestTagsWrong : ChangeSpec := { name := "digestTags", fn := fun _ => fun
  | [d1, d2] => { results := [.lit (.bool false)], args := [d1, d2] }
  | _ => none }
def DigestTagsWrongFalsely : Prop := digestTagsRow.holds Tryd.pinned (OpenSpec.ofChange digestTagsWrong)

/-- 'stockadelaw03.DigestStates': WHATEVER THE INPUT: true; the input reads as it did. -/
def digestStatesSpec : ChangeSpec := { name := "digestStates", fn := fun _ => fun
  | [d] => { results := [.lit (.bool true)], args := [d] }
  | _ => none }
def digestStatesRow : OpenClaim := { program := "ytjknjjcdgniodaadoor", sum := "2482ba16a08c1f8ce689efc8f944f6b041384adc8a158a3e13f0b8f3057204a5", func := "stockade/stockadelaw03.DigestStates", spec := "digestStates", inPlace := ["math/bits.Add64"], named := ["stockade/digest.turns"], apart := false, laid := [("stockade/digest.turns", laid_stockade_digest_turns)] }
def DigestStatesSaid : Prop := digestStatesRow.holds Tryd.pinned (OpenSpec.ofChange digestStatesSpec)

/-- ITS FALSE NEIGHBOUR: 'it returns false'. Refute it at one input. -/
def digestStatesWrong : ChangeSpec := { name := "digestStates", fn := fun _ => fun
  | [d] => { results := [.lit (.bool false)], args := [d] }
  | _ => none }
def DigestStatesWrongFalsely : Prop := digestStatesRow.holds Tryd.pinned (OpenSpec.ofChange digestStatesWrong)

/-- 'stockadelaw03.DigestOf': WHATEVER THE INPUT: true; the input reads as it did. -/
def digestOfSpec : ChangeSpec := { name := "digestOf", fn := fun _ => fun
  | [d1, d2] => { results := [.lit (.bool true)], args := [d1, d2] }
  | _ => none }
def digestOfRow : OpenClaim := { program := "ytjknjjcdgniodaadoor", sum := "2482ba16a08c1f8ce689efc8f944f6b041384adc8a158a3e13f0b8f3057204a5", func := "stockade/stockadelaw03.DigestOf", spec := "digestOf", inPlace := ["math/bits.Add64"], named := ["stockade/digest.turns"], apart := false, laid := [("stockade/digest.turns", laid_stockade_digest_turns)] }
def DigestOfSaid : Prop := digestOfRow.holds Tryd.pinned (OpenSpec.ofChange digestOfSpec)

/-- ITS FALSE NEIGHBOUR: 'it returns false'. Refute it at one input. -/
def digestOfWrong : ChangeSpec := { name := "digestOf", fn := fun _ => fun
  | [d1, d2] => { results := [.lit (.bool false)], args := [d1, d2] }
  | _ => none }
def DigestOfWrongFalsely : Prop := digestOfRow.holds Tryd.pinned (OpenSpec.ofChange digestOfWrong)

/-- 'stockadelaw04.DrawApart': WHATEVER THE INPUT: true; the input reads as it did. -/
def drawApartSpec : ChangeSpec := { name := "drawApart", fn := fun _ => fun
  | [d1, d2, d3] => { results := [.lit (.bool true)], args := [d1, d2, d3] }
  | _ => none }
def drawApartRow : OpenClaim := { program := "ytjknjjcdgniodaadoor", sum := "2482ba16a08c1f8ce689efc8f944f6b041384adc8a158a3e13f0b8f3057204a5", func := "stockade/stockadelaw04.DrawApart", spec := "drawApart", named := ["stockade/digest.turns", "stockade/api.ErrRange"], apart := false, laid := [("stockade/digest.turns", laid_stockade_digest_turns), ("stockade/api.ErrRange", laid_stockade_api_ErrRange)] }
def DrawApartSaid : Prop := drawApartRow.holds Tryd.pinned (OpenSpec.ofChange drawApartSpec)

/-- ITS FALSE NEIGHBOUR: 'it returns false'. Refute it at one input. -/
def drawApartWrong : ChangeSpec := { name := "drawApart", fn := fun _ => fun
  | [d1, d2, d3] => { results := [.lit (.bool false)], args := [d1, d2, d3] }
  | _ => none }
def DrawApartWrongFalsely : Prop := drawApartRow.holds Tryd.pinned (OpenSpec.ofChange drawApartWrong)

/-- 'stockadelaw04.DrawNumbers': WHATEVER THE INPUT: true; the input reads as it did. -/
def drawNumbersSpec : ChangeSpec := { name := "drawNumbers", fn := fun _ => fun
  | [d1, d2, d3] => { results := [.lit (.bool true)], args := [d1, d2, d3] }
  | _ => none }
def drawNumbersRow : OpenClaim := { program := "ytjknjjcdgniodaadoor", sum := "2482ba16a08c1f8ce689efc8f944f6b041384adc8a158a3e13f0b8f3057204a5", func := "stockade/stockadelaw04.DrawNumbers", spec := "drawNumbers", named := ["stockade/digest.turns", "stockade/api.ErrRange"], apart := false, laid := [("stockade/digest.turns", laid_stockade_digest_turns), ("stockade/api.ErrRange", laid_stockade_api_ErrRange)] }
def DrawNumbersSaid : Prop := drawNumbersRow.holds Tryd.pinned (OpenSpec.ofChange drawNumbersSpec)

/-- ITS FALSE NEIGHBOUR: 'it returns false'. Refute it at one input. -/
def drawNumbersWrong : ChangeSpec := { name := "drawNumbers", fn := fun _ => fun
  | [d1, d2, d3] => { results := [.lit (.bool false)], args := [d1, d2, d3] }
  | _ => none }
def DrawNumbersWrongFalsely : Prop := drawNumbersRow.holds Tryd.pinned (OpenSpec.ofChange drawNumbersWrong)

/-- 'stockadelaw04.DrawTicks': WHATEVER THE INPUT: true; the input reads as it did. -/
def drawTicksSpec : ChangeSpec := { name := "drawTicks", fn := fun _ => fun
  | [d] => { results := [.lit (.bool true)], args := [d] }
  | _ => none }
def drawTicksRow : OpenClaim := { program := "ytjknjjcdgniodaadoor", sum := "2482ba16a08c1f8ce689efc8f944f6b041384adc8a158a3e13f0b8f3057204a5", func := "stockade/stockadelaw04.DrawTicks", spec := "drawTicks", named := ["stockade/digest.turns", "stockade/api.ErrRange"], apart := false, laid := [("stockade/digest.turns", laid_stockade_digest_turns), ("stockade/api.ErrRange", laid_stockade_api_ErrRange)] }
def DrawTicksSaid : Prop := drawTicksRow.holds Tryd.pinned (OpenSpec.ofChange drawTicksSpec)

/-- ITS FALSE NEIGHBOUR: 'it returns false'. Refute it at one input. -/
def drawTicksWrong : ChangeSpec := { name := "drawTicks", fn := fun _ => fun
  | [d] => { results := [.lit (.bool false)], args := [d] }
  | _ => none }
def DrawTicksWrongFalsely : Prop := drawTicksRow.holds Tryd.pinned (OpenSpec.ofChange drawTicksWrong)

/-- 'stockadelaw04.DrawRange': WHATEVER THE INPUT: true; the input reads as it did. -/
def drawRangeSpec : ChangeSpec := { name := "drawRange", fn := fun _ => fun
  | [d1, d2] => { results := [.lit (.bool true)], args := [d1, d2] }
  | _ => none }
def drawRangeRow : OpenClaim := { program := "ytjknjjcdgniodaadoor", sum := "2482ba16a08c1f8ce689efc8f944f6b041384adc8a158a3e13f0b8f3057204a5", func := "stockade/stockadelaw04.DrawRange", spec := "drawRange", inPlace := ["internal/reflectlite.TypeOf"], unfollowed := true, recurses := true, named := ["stockade/digest.turns", "stockade/api.ErrRange", "stockade/api.ErrText", "stockade/api.ErrDepth", "stockade/api.ErrName", "stockade/api.ErrType", "stockade/api.ErrLarge", "stockade/api.ErrFull", "stockade/api.ErrNone", "stockade/api.ErrCode", "stockade/api.ErrState", "stockade/api.ErrFrame", "stockade/api.ErrMac", "stockade/api.ErrReplay", "stockade/api.ErrArena", "stockade/api.ErrClock", "stockade/api.ErrQuota", "stockade/api.ErrTenant"], apart := false, laid := [("stockade/digest.turns", laid_stockade_digest_turns), ("stockade/api.ErrRange", laid_stockade_api_ErrRange), ("stockade/api.ErrText", laid_stockade_api_ErrText), ("stockade/api.ErrDepth", laid_stockade_api_ErrDepth), ("stockade/api.ErrName", laid_stockade_api_ErrName), ("stockade/api.ErrType", laid_stockade_api_ErrType), ("stockade/api.ErrLarge", laid_stockade_api_ErrLarge), ("stockade/api.ErrFull", laid_stockade_api_ErrFull), ("stockade/api.ErrNone", laid_stockade_api_ErrNone), ("stockade/api.ErrCode", laid_stockade_api_ErrCode), ("stockade/api.ErrState", laid_stockade_api_ErrState), ("stockade/api.ErrFrame", laid_stockade_api_ErrFrame), ("stockade/api.ErrMac", laid_stockade_api_ErrMac), ("stockade/api.ErrReplay", laid_stockade_api_ErrReplay), ("stockade/api.ErrArena", laid_stockade_api_ErrArena), ("stockade/api.ErrClock", laid_stockade_api_ErrClock), ("stockade/api.ErrQuota", laid_stockade_api_ErrQuota), ("stockade/api.ErrTenant", laid_stockade_api_ErrTenant)] }
def DrawRangeSaid : Prop := drawRangeRow.holds Tryd.pinned (OpenSpec.ofChange drawRangeSpec)

/-- ITS FALSE NEIGHBOUR: 'it returns false'. Refute it at one input. -/
def drawRangeWrong : ChangeSpec := { name := "drawRange", fn := fun _ => fun
  | [d1, d2] => { results := [.lit (.bool false)], args := [d1, d2] }
  | _ => none }
def DrawRangeWrongFalsely : Prop := drawRangeRow.holds Tryd.pinned (OpenSpec.ofChange drawRangeWrong)

/-- 'stockadelaw04.DrawWords': WHATEVER THE INPUT: true; the input reads as it did. -/
def drawWordsSpec : ChangeSpec := { name := "drawWords", fn := fun _ => fun
  | [d1, d2, d3] => { results := [.lit (.bool true)], args := [d1, d2, d3] }
  | _ => none }
def drawWordsRow : OpenClaim := { program := "ytjknjjcdgniodaadoor", sum := "2482ba16a08c1f8ce689efc8f944f6b041384adc8a158a3e13f0b8f3057204a5", func := "stockade/stockadelaw04.DrawWords", spec := "drawWords", inPlace := ["internal/reflectlite.TypeOf", "math/bits.Add64"], unfollowed := true, recurses := true, named := ["stockade/digest.turns", "stockade/api.ErrRange", "stockade/api.ErrText", "stockade/api.ErrDepth", "stockade/api.ErrName", "stockade/api.ErrType", "stockade/api.ErrLarge", "stockade/api.ErrFull", "stockade/api.ErrNone", "stockade/api.ErrCode", "stockade/api.ErrState", "stockade/api.ErrFrame", "stockade/api.ErrMac", "stockade/api.ErrReplay", "stockade/api.ErrArena", "stockade/api.ErrClock", "stockade/api.ErrQuota", "stockade/api.ErrTenant"], apart := false, laid := [("stockade/digest.turns", laid_stockade_digest_turns), ("stockade/api.ErrRange", laid_stockade_api_ErrRange), ("stockade/api.ErrText", laid_stockade_api_ErrText), ("stockade/api.ErrDepth", laid_stockade_api_ErrDepth), ("stockade/api.ErrName", laid_stockade_api_ErrName), ("stockade/api.ErrType", laid_stockade_api_ErrType), ("stockade/api.ErrLarge", laid_stockade_api_ErrLarge), ("stockade/api.ErrFull", laid_stockade_api_ErrFull), ("stockade/api.ErrNone", laid_stockade_api_ErrNone), ("stockade/api.ErrCode", laid_stockade_api_ErrCode), ("stockade/api.ErrState", laid_stockade_api_ErrState), ("stockade/api.ErrFrame", laid_stockade_api_ErrFrame), ("stockade/api.ErrMac", laid_stockade_api_ErrMac), ("stockade/api.ErrReplay", laid_stockade_api_ErrReplay), ("stockade/api.ErrArena", laid_stockade_api_ErrArena), ("stockade/api.ErrClock", laid_stockade_api_ErrClock), ("stockade/api.ErrQuota", laid_stockade_api_ErrQuota), ("stockade/api.ErrTenant", laid_stockade_api_ErrTenant)] }
def DrawWordsSaid : Prop := drawWordsRow.holds Tryd.pinned (OpenSpec.ofChange drawWordsSpec)

/-- ITS FALSE NEIGHBOUR: 'it returns false'. Refute it at one input. -/
def drawWordsWrong : ChangeSpec := { name := "drawWords", fn := fun _ => fun
  | [d1, d2, d3] => { results := [.lit (.bool false)], args := [d1, d2, d3] }
  | _ => none }
def DrawWordsWrongFalsely : Prop := drawWordsRow.holds Tryd.pinned (OpenSpec.ofChange drawWordsWrong)

/-- 'stockadelaw04.DrawPlays': WHATEVER THE INPUT: true; the input reads as it did. -/
def drawPlaysSpec : ChangeSpec := { name := "drawPlays", fn := fun _ => fun
  | [d1, d2] => { results := [.lit (.bool true)], args := [d1, d2] }
  | _ => none }
def drawPlaysRow : OpenClaim := { program := "ytjknjjcdgniodaadoor", sum := "2482ba16a08c1f8ce689efc8f944f6b041384adc8a158a3e13f0b8f3057204a5", func := "stockade/stockadelaw04.DrawPlays", spec := "drawPlays", inPlace := ["math/bits.Add64", "internal/reflectlite.TypeOf"], unfollowed := true, recurses := true, named := ["stockade/digest.turns", "stockade/api.ErrRange", "stockade/api.ErrText", "stockade/api.ErrDepth", "stockade/api.ErrName", "stockade/api.ErrType", "stockade/api.ErrLarge", "stockade/api.ErrFull", "stockade/api.ErrNone", "stockade/api.ErrCode", "stockade/api.ErrState", "stockade/api.ErrFrame", "stockade/api.ErrMac", "stockade/api.ErrReplay", "stockade/api.ErrArena", "stockade/api.ErrClock", "stockade/api.ErrQuota", "stockade/api.ErrTenant"], apart := false, laid := [("stockade/digest.turns", laid_stockade_digest_turns), ("stockade/api.ErrRange", laid_stockade_api_ErrRange), ("stockade/api.ErrText", laid_stockade_api_ErrText), ("stockade/api.ErrDepth", laid_stockade_api_ErrDepth), ("stockade/api.ErrName", laid_stockade_api_ErrName), ("stockade/api.ErrType", laid_stockade_api_ErrType), ("stockade/api.ErrLarge", laid_stockade_api_ErrLarge), ("stockade/api.ErrFull", laid_stockade_api_ErrFull), ("stockade/api.ErrNone", laid_stockade_api_ErrNone), ("stockade/api.ErrCode", laid_stockade_api_ErrCode), ("stockade/api.ErrState", laid_stockade_api_ErrState), ("stockade/api.ErrFrame", laid_stockade_api_ErrFrame), ("stockade/api.ErrMac", laid_stockade_api_ErrMac), ("stockade/api.ErrReplay", laid_stockade_api_ErrReplay), ("stockade/api.ErrArena", laid_stockade_api_ErrArena), ("stockade/api.ErrClock", laid_stockade_api_ErrClock), ("stockade/api.ErrQuota", laid_stockade_api_ErrQuota), ("stockade/api.ErrTenant", laid_stockade_api_ErrTenant)] }
def DrawPlaysSaid : Prop := drawPlaysRow.holds Tryd.pinned (OpenSpec.ofChange drawPlaysSpec)

/-- ITS FALSE NEIGHBOUR: 'it returns false'. Refute it at one input. -/
def drawPlaysWrong : ChangeSpec := { name := "drawPlays", fn := fun _ => fun
  | [d1, d2] => { results := [.lit (.bool false)], args := [d1, d2] }
  | _ => none }
def DrawPlaysWrongFalsely : Prop := drawPlaysRow.holds Tryd.pinned (OpenSpec.ofChange drawPlaysWrong)

/- THE SECOND FORM. 'bulk': how many values and letters a reading holds, each counted each time it is reached (what is shared counts as often as it is met; a slice's spare places count too). A statement '..UptoSaid' is the law's where the arguments, and the package variables that the reading takes, are together of bulk at most 1048576: NARROWER than '..Said'. Prove '..Said' where nothing that the law and all that it calls make is longer than what came in: it says more and counts as full. Else prove '..UptoSaid'. A law counts once. -/
mutual
def uptoBulk {H : Type} : DataW H → Nat
  | .lit (.string bytes) => bytes.length + 1
  | .lit _ => 1
  | .nil => 1
  | .ptr d => uptoBulk d + 1
  | .slice elems spare => uptoBulkAll elems + uptoBulkAll spare + 1
  | .agg parts => uptoBulkAll parts + 1
  | .iface _ d => uptoBulk d + 1
  | .map entries => uptoBulkEntries entries + 1
  | .held _ => 1
def uptoBulkAll {H : Type} : List (DataW H) → Nat
  | [] => 0
  | d :: r => uptoBulk d + uptoBulkAll r
def uptoBulkEntries {H : Type} : List (Lit × DataW H) → Nat
  | [] => 0
  | x :: r => uptoBulkEntry x + uptoBulkEntries r
def uptoBulkEntry {H : Type} : Lit × DataW H → Nat
  | (.string bytes, d) => bytes.length + uptoBulk d + 1
  | (_, d) => uptoBulk d + 1
 end
def uptoSmall : (H : Type) → List (DataW H) → Bool := fun _ ds => decide (uptoBulkAll ds ≤ 1048576)
def OpenSpec.upto (s : _root_.Go.ChangeSpec) : _root_.Go.OpenSpec := { _root_.Go.OpenSpec.ofChange s with cond := some uptoSmall }

/-- 'stockadelaw03.DigestPads', WHERE WHAT IT READS IS OF BULK AT MOST 1048576: true; the input reads as it did. -/
def digestPadsUptoRow : OpenClaim := { program := "ytjknjjcdgniodaadoor", sum := "2482ba16a08c1f8ce689efc8f944f6b041384adc8a158a3e13f0b8f3057204a5", func := "stockade/stockadelaw03.DigestPads", spec := "digestPads", named := ["stockade/digest.turns"], apart := false, laid := [("stockade/digest.turns", laid_stockade_digest_turns)], narrowed := true }
def DigestPadsUptoSaid : Prop := digestPadsUptoRow.holds Tryd.pinned (OpenSpec.upto digestPadsSpec)

/-- 'stockadelaw03.DigestPieces', WHERE WHAT IT READS IS OF BULK AT MOST 1048576: true; the input reads as it did. -/
def digestPiecesUptoRow : OpenClaim := { program := "ytjknjjcdgniodaadoor", sum := "2482ba16a08c1f8ce689efc8f944f6b041384adc8a158a3e13f0b8f3057204a5", func := "stockade/stockadelaw03.DigestPieces", spec := "digestPieces", named := ["stockade/digest.turns"], apart := false, laid := [("stockade/digest.turns", laid_stockade_digest_turns)], narrowed := true }
def DigestPiecesUptoSaid : Prop := digestPiecesUptoRow.holds Tryd.pinned (OpenSpec.upto digestPiecesSpec)

/-- 'stockadelaw03.DigestEquals', WHERE WHAT IT READS IS OF BULK AT MOST 1048576: true; the input reads as it did. -/
def digestEqualsUptoRow : OpenClaim := { program := "ytjknjjcdgniodaadoor", sum := "2482ba16a08c1f8ce689efc8f944f6b041384adc8a158a3e13f0b8f3057204a5", func := "stockade/stockadelaw03.DigestEquals", spec := "digestEquals", named := ["stockade/digest.turns"], apart := false, laid := [("stockade/digest.turns", laid_stockade_digest_turns)], narrowed := true }
def DigestEqualsUptoSaid : Prop := digestEqualsUptoRow.holds Tryd.pinned (OpenSpec.upto digestEqualsSpec)

/-- 'stockadelaw03.DigestTags', WHERE WHAT IT READS IS OF BULK AT MOST 1048576: true; the input reads as it did. -/
def digestTagsUptoRow : OpenClaim := { program := "ytjknjjcdgniodaadoor", sum := "2482ba16a08c1f8ce689efc8f944f6b041384adc8a158a3e13f0b8f3057204a5", func := "stockade/stockadelaw03.DigestTags", spec := "digestTags", inPlace := ["math/bits.Add64"], named := ["stockade/digest.turns"], apart := false, laid := [("stockade/digest.turns", laid_stockade_digest_turns)], narrowed := true }
def DigestTagsUptoSaid : Prop := digestTagsUptoRow.holds Tryd.pinned (OpenSpec.upto digestTagsSpec)

/-- 'stockadelaw03.DigestStates', WHERE WHAT IT READS IS OF BULK AT MOST 1048576: true; the input reads as it did. -/
def digestStatesUptoRow : OpenClaim := { program := "ytjknjjcdgniodaadoor", sum := "2482ba16a08c1f8ce689efc8f944f6b041384adc8a158a3e13f0b8f3057204a5", func := "stockade/stockadelaw03.DigestStates", spec := "digestStates", inPlace := ["math/bits.Add64"], named := ["stockade/digest.turns"], apart := false, laid := [("stockade/digest.turns", laid_stockade_digest_turns)], narrowed := true }
def DigestStatesUptoSaid : Prop := digestStatesUptoRow.holds Tryd.pinned (OpenSpec.upto digestStatesSpec)

/-- 'stockadelaw03.DigestOf', WHERE WHAT IT READS IS OF BULK AT MOST 1048576: true; the input reads as it did. -/
def digestOfUptoRow : OpenClaim := { program := "ytjknjjcdgniodaadoor", sum := "2482ba16a08c1f8ce689efc8f944f6b041384adc8a158a3e13f0b8f3057204a5", func := "stockade/stockadelaw03.DigestOf", spec := "digestOf", inPlace := ["math/bits.Add64"], named := ["stockade/digest.turns"], apart := false, laid := [("stockade/digest.turns", laid_stockade_digest_turns)], narrowed := true }
def DigestOfUptoSaid : Prop := digestOfUptoRow.holds Tryd.pinned (OpenSpec.upto digestOfSpec)

/-- 'stockadelaw04.DrawApart', WHERE WHAT IT READS IS OF BULK AT MOST 1048576: true; the input reads as it did. -/
def drawApartUptoRow : OpenClaim := { program := "ytjknjjcdgniodaadoor", sum := "2482ba16a08c1f8ce689efc8f944f6b041384adc8a158a3e13f0b8f3057204a5", func := "stockade/stockadelaw04.DrawApart", spec := "drawApart", named := ["stockade/digest.turns", "stockade/api.ErrRange"], apart := false, laid := [("stockade/digest.turns", laid_stockade_digest_turns), ("stockade/api.ErrRange", laid_stockade_api_ErrRange)], narrowed := true }
def DrawApartUptoSaid : Prop := drawApartUptoRow.holds Tryd.pinned (OpenSpec.upto drawApartSpec)

/-- 'stockadelaw04.DrawNumbers', WHERE WHAT IT READS IS OF BULK AT MOST 1048576: true; the input reads as it did. -/
def drawNumbersUptoRow : OpenClaim := { program := "ytjknjjcdgniodaadoor", sum := "2482ba16a08c1f8ce689efc8f944f6b041384adc8a158a3e13f0b8f3057204a5", func := "stockade/stockadelaw04.DrawNumbers", spec := "drawNumbers", named := ["stockade/digest.turns", "stockade/api.ErrRange"], apart := false, laid := [("stockade/digest.turns", laid_stockade_digest_turns), ("stockade/api.ErrRange", laid_stockade_api_ErrRange)], narrowed := true }
def DrawNumbersUptoSaid : Prop := drawNumbersUptoRow.holds Tryd.pinned (OpenSpec.upto drawNumbersSpec)

/-- 'stockadelaw04.DrawTicks', WHERE WHAT IT READS IS OF BULK AT MOST 1048576: true; the input reads as it did. -/
def drawTicksUptoRow : OpenClaim := { program := "ytjknjjcdgniodaadoor", sum := "2482ba16a08c1f8ce689efc8f944f6b041384adc8a158a3e13f0b8f3057204a5", func := "stockade/stockadelaw04.DrawTicks", spec := "drawTicks", named := ["stockade/digest.turns", "stockade/api.ErrRange"], apart := false, laid := [("stockade/digest.turns", laid_stockade_digest_turns), ("stockade/api.ErrRange", laid_stockade_api_ErrRange)], narrowed := true }
def DrawTicksUptoSaid : Prop := drawTicksUptoRow.holds Tryd.pinned (OpenSpec.upto drawTicksSpec)

/-- 'stockadelaw04.DrawRange', WHERE WHAT IT READS IS OF BULK AT MOST 1048576: true; the input reads as it did. -/
def drawRangeUptoRow : OpenClaim := { program := "ytjknjjcdgniodaadoor", sum := "2482ba16a08c1f8ce689efc8f944f6b041384adc8a158a3e13f0b8f3057204a5", func := "stockade/stockadelaw04.DrawRange", spec := "drawRange", inPlace := ["internal/reflectlite.TypeOf"], unfollowed := true, recurses := true, named := ["stockade/digest.turns", "stockade/api.ErrRange", "stockade/api.ErrText", "stockade/api.ErrDepth", "stockade/api.ErrName", "stockade/api.ErrType", "stockade/api.ErrLarge", "stockade/api.ErrFull", "stockade/api.ErrNone", "stockade/api.ErrCode", "stockade/api.ErrState", "stockade/api.ErrFrame", "stockade/api.ErrMac", "stockade/api.ErrReplay", "stockade/api.ErrArena", "stockade/api.ErrClock", "stockade/api.ErrQuota", "stockade/api.ErrTenant"], apart := false, laid := [("stockade/digest.turns", laid_stockade_digest_turns), ("stockade/api.ErrRange", laid_stockade_api_ErrRange), ("stockade/api.ErrText", laid_stockade_api_ErrText), ("stockade/api.ErrDepth", laid_stockade_api_ErrDepth), ("stockade/api.ErrName", laid_stockade_api_ErrName), ("stockade/api.ErrType", laid_stockade_api_ErrType), ("stockade/api.ErrLarge", laid_stockade_api_ErrLarge), ("stockade/api.ErrFull", laid_stockade_api_ErrFull), ("stockade/api.ErrNone", laid_stockade_api_ErrNone), ("stockade/api.ErrCode", laid_stockade_api_ErrCode), ("stockade/api.ErrState", laid_stockade_api_ErrState), ("stockade/api.ErrFrame", laid_stockade_api_ErrFrame), ("stockade/api.ErrMac", laid_stockade_api_ErrMac), ("stockade/api.ErrReplay", laid_stockade_api_ErrReplay), ("stockade/api.ErrArena", laid_stockade_api_ErrArena), ("stockade/api.ErrClock", laid_stockade_api_ErrClock), ("stockade/api.ErrQuota", laid_stockade_api_ErrQuota), ("stockade/api.ErrTenant", laid_stockade_api_ErrTenant)], narrowed := true }
def DrawRangeUptoSaid : Prop := drawRangeUptoRow.holds Tryd.pinned (OpenSpec.upto drawRangeSpec)

/-- 'stockadelaw04.DrawWords', WHERE WHAT IT READS IS OF BULK AT MOST 1048576: true; the input reads as it did. -/
def drawWordsUptoRow : OpenClaim := { program := "ytjknjjcdgniodaadoor", sum := "2482ba16a08c1f8ce689efc8f944f6b041384adc8a158a3e13f0b8f3057204a5", func := "stockade/stockadelaw04.DrawWords", spec := "drawWords", inPlace := ["internal/reflectlite.TypeOf", "math/bits.Add64"], unfollowed := true, recurses := true, named := ["stockade/digest.turns", "stockade/api.ErrRange", "stockade/api.ErrText", "stockade/api.ErrDepth", "stockade/api.ErrName", "stockade/api.ErrType", "stockade/api.ErrLarge", "stockade/api.ErrFull", "stockade/api.ErrNone", "stockade/api.ErrCode", "stockade/api.ErrState", "stockade/api.ErrFrame", "stockade/api.ErrMac", "stockade/api.ErrReplay", "stockade/api.ErrArena", "stockade/api.ErrClock", "stockade/api.ErrQuota", "stockade/api.ErrTenant"], apart := false, laid := [("stockade/digest.turns", laid_stockade_digest_turns), ("stockade/api.ErrRange", laid_stockade_api_ErrRange), ("stockade/api.ErrText", laid_stockade_api_ErrText), ("stockade/api.ErrDepth", laid_stockade_api_ErrDepth), ("stockade/api.ErrName", laid_stockade_api_ErrName), ("stockade/api.ErrType", laid_stockade_api_ErrType), ("stockade/api.ErrLarge", laid_stockade_api_ErrLarge), ("stockade/api.ErrFull", laid_stockade_api_ErrFull), ("stockade/api.ErrNone", laid_stockade_api_ErrNone), ("stockade/api.ErrCode", laid_stockade_api_ErrCode), ("stockade/api.ErrState", laid_stockade_api_ErrState), ("stockade/api.ErrFrame", laid_stockade_api_ErrFrame), ("stockade/api.ErrMac", laid_stockade_api_ErrMac), ("stockade/api.ErrReplay", laid_stockade_api_ErrReplay), ("stockade/api.ErrArena", laid_stockade_api_ErrArena), ("stockade/api.ErrClock", laid_stockade_api_ErrClock), ("stockade/api.ErrQuota", laid_stockade_api_ErrQuota), ("stockade/api.ErrTenant", laid_stockade_api_ErrTenant)], narrowed := true }
def DrawWordsUptoSaid : Prop := drawWordsUptoRow.holds Tryd.pinned (OpenSpec.upto drawWordsSpec)

/-- 'stockadelaw04.DrawPlays', WHERE WHAT IT READS IS OF BULK AT MOST 1048576: true; the input reads as it did. -/
def drawPlaysUptoRow : OpenClaim := { program := "ytjknjjcdgniodaadoor", sum := "2482ba16a08c1f8ce689efc8f944f6b041384adc8a158a3e13f0b8f3057204a5", func := "stockade/stockadelaw04.DrawPlays", spec := "drawPlays", inPlace := ["math/bits.Add64", "internal/reflectlite.TypeOf"], unfollowed := true, recurses := true, named := ["stockade/digest.turns", "stockade/api.ErrRange", "stockade/api.ErrText", "stockade/api.ErrDepth", "stockade/api.ErrName", "stockade/api.ErrType", "stockade/api.ErrLarge", "stockade/api.ErrFull", "stockade/api.ErrNone", "stockade/api.ErrCode", "stockade/api.ErrState", "stockade/api.ErrFrame", "stockade/api.ErrMac", "stockade/api.ErrReplay", "stockade/api.ErrArena", "stockade/api.ErrClock", "stockade/api.ErrQuota", "stockade/api.ErrTenant"], apart := false, laid := [("stockade/digest.turns", laid_stockade_digest_turns), ("stockade/api.ErrRange", laid_stockade_api_ErrRange), ("stockade/api.ErrText", laid_stockade_api_ErrText), ("stockade/api.ErrDepth", laid_stockade_api_ErrDepth), ("stockade/api.ErrName", laid_stockade_api_ErrName), ("stockade/api.ErrType", laid_stockade_api_ErrType), ("stockade/api.ErrLarge", laid_stockade_api_ErrLarge), ("stockade/api.ErrFull", laid_stockade_api_ErrFull), ("stockade/api.ErrNone", laid_stockade_api_ErrNone), ("stockade/api.ErrCode", laid_stockade_api_ErrCode), ("stockade/api.ErrState", laid_stockade_api_ErrState), ("stockade/api.ErrFrame", laid_stockade_api_ErrFrame), ("stockade/api.ErrMac", laid_stockade_api_ErrMac), ("stockade/api.ErrReplay", laid_stockade_api_ErrReplay), ("stockade/api.ErrArena", laid_stockade_api_ErrArena), ("stockade/api.ErrClock", laid_stockade_api_ErrClock), ("stockade/api.ErrQuota", laid_stockade_api_ErrQuota), ("stockade/api.ErrTenant", laid_stockade_api_ErrTenant)], narrowed := true }
def DrawPlaysUptoSaid : Prop := drawPlaysUptoRow.holds Tryd.pinned (OpenSpec.upto drawPlaysSpec)

end Rows
end Go.Proofs.YtjknjjcdgniodaaDoor
