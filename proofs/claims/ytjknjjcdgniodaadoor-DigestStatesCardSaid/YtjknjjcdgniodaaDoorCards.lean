/-
  DERIVED. GIVEN WITH THE SEED: THE CARDS: each row of YtjknjjcdgniodaaDoorRows.lean that lists a variable, with what it lists TIED to the program's text (the seventh form; the later family's looks); each row that meets fmt, with fmt's text TOLD by the authors' own Lean function (tested against real Go, not proved from fmt's source: count such statements apart). THE CARD IS WHAT COUNTS. Prove the row's statement (the work); the ties are given (YtjknjjcdgniodaaDoorTie.lean); close each card by the builder's one call (the guide's Derived/Test/ToyasCard.lean, 'card_holds'). Laid BY PROGRAM, IN A SANDBOX (cutbox-door.mjs). By AI agents, Wed Nov 11 2026. No macro, syntax, notation, axiom, sorry.
-/
import Derived.Test.YtjknjjcdgniodaaDoorRows
import GoSem.ClaimSeven
namespace Go.Proofs.YtjknjjcdgniodaaDoor
namespace Rows

/-- THE TIED CARD OF 'stockadelaw03.DigestPads'. -/
def digestPadsCard : Claim7 := { stood := { row := digestPadsRow, standIns := [], harness := (true, "78d58d20c8ea1b7057d985489c1e307a4e22ff467935b61a7dc85fb454b48089"), looks := true }, kinds := [], alts := [], laidByText := true, laidKinds := [.data], laidTests := true, laidLooks := .later }
def DigestPadsCardSaid : Prop := Claim7.holds Tryd.pinned (.plain (OpenSpec.ofChange digestPadsSpec)) digestPadsCard

/-- THE TIED CARD OF 'stockadelaw03.DigestPieces'. -/
def digestPiecesCard : Claim7 := { stood := { row := digestPiecesRow, standIns := [], harness := (true, "78d58d20c8ea1b7057d985489c1e307a4e22ff467935b61a7dc85fb454b48089"), looks := true }, kinds := [], alts := [], laidByText := true, laidKinds := [.data], laidTests := true, laidLooks := .later }
def DigestPiecesCardSaid : Prop := Claim7.holds Tryd.pinned (.plain (OpenSpec.ofChange digestPiecesSpec)) digestPiecesCard

/-- THE TIED CARD OF 'stockadelaw03.DigestEquals'. -/
def digestEqualsCard : Claim7 := { stood := { row := digestEqualsRow, standIns := [], harness := (true, "78d58d20c8ea1b7057d985489c1e307a4e22ff467935b61a7dc85fb454b48089"), looks := true }, kinds := [], alts := [], laidByText := true, laidKinds := [.data], laidTests := true, laidLooks := .later }
def DigestEqualsCardSaid : Prop := Claim7.holds Tryd.pinned (.plain (OpenSpec.ofChange digestEqualsSpec)) digestEqualsCard

/-- THE TIED CARD OF 'stockadelaw03.DigestTags'. -/
def digestTagsCard : Claim7 := { stood := { row := digestTagsRow, standIns := [], harness := (true, "78d58d20c8ea1b7057d985489c1e307a4e22ff467935b61a7dc85fb454b48089"), looks := true }, kinds := [], alts := [], laidByText := true, laidKinds := [.data], laidTests := true, laidLooks := .later }
def DigestTagsCardSaid : Prop := Claim7.holds Tryd.pinned (.plain (OpenSpec.ofChange digestTagsSpec)) digestTagsCard

/-- THE TIED CARD OF 'stockadelaw03.DigestStates'. -/
def digestStatesCard : Claim7 := { stood := { row := digestStatesRow, standIns := [], harness := (true, "78d58d20c8ea1b7057d985489c1e307a4e22ff467935b61a7dc85fb454b48089"), looks := true }, kinds := [], alts := [], laidByText := true, laidKinds := [.data], laidTests := true, laidLooks := .later }
def DigestStatesCardSaid : Prop := Claim7.holds Tryd.pinned (.plain (OpenSpec.ofChange digestStatesSpec)) digestStatesCard

/-- THE TIED CARD OF 'stockadelaw03.DigestOf'. -/
def digestOfCard : Claim7 := { stood := { row := digestOfRow, standIns := [], harness := (true, "78d58d20c8ea1b7057d985489c1e307a4e22ff467935b61a7dc85fb454b48089"), looks := true }, kinds := [], alts := [], laidByText := true, laidKinds := [.data], laidTests := true, laidLooks := .later }
def DigestOfCardSaid : Prop := Claim7.holds Tryd.pinned (.plain (OpenSpec.ofChange digestOfSpec)) digestOfCard

/-- THE TIED CARD OF 'stockadelaw04.DrawApart'. -/
def drawApartCard : Claim7 := { stood := { row := drawApartRow, standIns := [], harness := (true, "78d58d20c8ea1b7057d985489c1e307a4e22ff467935b61a7dc85fb454b48089"), looks := true }, kinds := [], alts := [], laidByText := true, laidKinds := [.data, .sentinel], laidTests := true, laidLooks := .later }
def DrawApartCardSaid : Prop := Claim7.holds Tryd.pinned (.plain (OpenSpec.ofChange drawApartSpec)) drawApartCard

/-- THE TIED CARD OF 'stockadelaw04.DrawNumbers'. -/
def drawNumbersCard : Claim7 := { stood := { row := drawNumbersRow, standIns := [], harness := (true, "78d58d20c8ea1b7057d985489c1e307a4e22ff467935b61a7dc85fb454b48089"), looks := true }, kinds := [], alts := [], laidByText := true, laidKinds := [.data, .sentinel], laidTests := true, laidLooks := .later }
def DrawNumbersCardSaid : Prop := Claim7.holds Tryd.pinned (.plain (OpenSpec.ofChange drawNumbersSpec)) drawNumbersCard

/-- THE TIED CARD OF 'stockadelaw04.DrawTicks'. -/
def drawTicksCard : Claim7 := { stood := { row := drawTicksRow, standIns := [], harness := (true, "78d58d20c8ea1b7057d985489c1e307a4e22ff467935b61a7dc85fb454b48089"), looks := true }, kinds := [], alts := [], laidByText := true, laidKinds := [.data, .sentinel], laidTests := true, laidLooks := .later }
def DrawTicksCardSaid : Prop := Claim7.holds Tryd.pinned (.plain (OpenSpec.ofChange drawTicksSpec)) drawTicksCard

/-- THE TIED CARD OF 'stockadelaw04.DrawRange'. -/
def drawRangeCard : Claim7 := { stood := { row := drawRangeRow, standIns := [], harness := (true, "78d58d20c8ea1b7057d985489c1e307a4e22ff467935b61a7dc85fb454b48089"), looks := true }, kinds := [], alts := [], laidByText := true, laidKinds := [.data, .sentinel, .sentinel, .sentinel, .sentinel, .sentinel, .sentinel, .sentinel, .sentinel, .sentinel, .sentinel, .sentinel, .sentinel, .sentinel, .sentinel, .sentinel, .sentinel, .sentinel], laidTests := true, laidLooks := .later }
def DrawRangeCardSaid : Prop := Claim7.holds Tryd.pinned (.plain (OpenSpec.ofChange drawRangeSpec)) drawRangeCard

/-- THE TIED CARD OF 'stockadelaw04.DrawWords'. -/
def drawWordsCard : Claim7 := { stood := { row := drawWordsRow, standIns := [], harness := (true, "78d58d20c8ea1b7057d985489c1e307a4e22ff467935b61a7dc85fb454b48089"), looks := true }, kinds := [], alts := [], laidByText := true, laidKinds := [.data, .sentinel, .sentinel, .sentinel, .sentinel, .sentinel, .sentinel, .sentinel, .sentinel, .sentinel, .sentinel, .sentinel, .sentinel, .sentinel, .sentinel, .sentinel, .sentinel, .sentinel], laidTests := true, laidLooks := .later }
def DrawWordsCardSaid : Prop := Claim7.holds Tryd.pinned (.plain (OpenSpec.ofChange drawWordsSpec)) drawWordsCard

/-- THE TIED CARD OF 'stockadelaw04.DrawPlays'. -/
def drawPlaysCard : Claim7 := { stood := { row := drawPlaysRow, standIns := [], harness := (true, "78d58d20c8ea1b7057d985489c1e307a4e22ff467935b61a7dc85fb454b48089"), looks := true }, kinds := [], alts := [], laidByText := true, laidKinds := [.data, .sentinel, .sentinel, .sentinel, .sentinel, .sentinel, .sentinel, .sentinel, .sentinel, .sentinel, .sentinel, .sentinel, .sentinel, .sentinel, .sentinel, .sentinel, .sentinel, .sentinel], laidTests := true, laidLooks := .later }
def DrawPlaysCardSaid : Prop := Claim7.holds Tryd.pinned (.plain (OpenSpec.ofChange drawPlaysSpec)) drawPlaysCard

/-- THE SECOND FORM's CARD OF 'stockadelaw03.DigestPads'. -/
def digestPadsUptoCard : Claim7 := { stood := { row := digestPadsUptoRow, standIns := [], harness := (true, "78d58d20c8ea1b7057d985489c1e307a4e22ff467935b61a7dc85fb454b48089"), looks := true }, kinds := [], alts := [], laidByText := true, laidKinds := [.data], laidTests := true, laidLooks := .later }
def DigestPadsUptoCardSaid : Prop := Claim7.holds Tryd.pinned (.plain (OpenSpec.upto digestPadsSpec)) digestPadsUptoCard

/-- THE SECOND FORM's CARD OF 'stockadelaw03.DigestPieces'. -/
def digestPiecesUptoCard : Claim7 := { stood := { row := digestPiecesUptoRow, standIns := [], harness := (true, "78d58d20c8ea1b7057d985489c1e307a4e22ff467935b61a7dc85fb454b48089"), looks := true }, kinds := [], alts := [], laidByText := true, laidKinds := [.data], laidTests := true, laidLooks := .later }
def DigestPiecesUptoCardSaid : Prop := Claim7.holds Tryd.pinned (.plain (OpenSpec.upto digestPiecesSpec)) digestPiecesUptoCard

/-- THE SECOND FORM's CARD OF 'stockadelaw03.DigestEquals'. -/
def digestEqualsUptoCard : Claim7 := { stood := { row := digestEqualsUptoRow, standIns := [], harness := (true, "78d58d20c8ea1b7057d985489c1e307a4e22ff467935b61a7dc85fb454b48089"), looks := true }, kinds := [], alts := [], laidByText := true, laidKinds := [.data], laidTests := true, laidLooks := .later }
def DigestEqualsUptoCardSaid : Prop := Claim7.holds Tryd.pinned (.plain (OpenSpec.upto digestEqualsSpec)) digestEqualsUptoCard

/-- THE SECOND FORM's CARD OF 'stockadelaw03.DigestTags'. -/
def digestTagsUptoCard : Claim7 := { stood := { row := digestTagsUptoRow, standIns := [], harness := (true, "78d58d20c8ea1b7057d985489c1e307a4e22ff467935b61a7dc85fb454b48089"), looks := true }, kinds := [], alts := [], laidByText := true, laidKinds := [.data], laidTests := true, laidLooks := .later }
def DigestTagsUptoCardSaid : Prop := Claim7.holds Tryd.pinned (.plain (OpenSpec.upto digestTagsSpec)) digestTagsUptoCard

/-- THE SECOND FORM's CARD OF 'stockadelaw03.DigestStates'. -/
def digestStatesUptoCard : Claim7 := { stood := { row := digestStatesUptoRow, standIns := [], harness := (true, "78d58d20c8ea1b7057d985489c1e307a4e22ff467935b61a7dc85fb454b48089"), looks := true }, kinds := [], alts := [], laidByText := true, laidKinds := [.data], laidTests := true, laidLooks := .later }
def DigestStatesUptoCardSaid : Prop := Claim7.holds Tryd.pinned (.plain (OpenSpec.upto digestStatesSpec)) digestStatesUptoCard

/-- THE SECOND FORM's CARD OF 'stockadelaw03.DigestOf'. -/
def digestOfUptoCard : Claim7 := { stood := { row := digestOfUptoRow, standIns := [], harness := (true, "78d58d20c8ea1b7057d985489c1e307a4e22ff467935b61a7dc85fb454b48089"), looks := true }, kinds := [], alts := [], laidByText := true, laidKinds := [.data], laidTests := true, laidLooks := .later }
def DigestOfUptoCardSaid : Prop := Claim7.holds Tryd.pinned (.plain (OpenSpec.upto digestOfSpec)) digestOfUptoCard

/-- THE SECOND FORM's CARD OF 'stockadelaw04.DrawApart'. -/
def drawApartUptoCard : Claim7 := { stood := { row := drawApartUptoRow, standIns := [], harness := (true, "78d58d20c8ea1b7057d985489c1e307a4e22ff467935b61a7dc85fb454b48089"), looks := true }, kinds := [], alts := [], laidByText := true, laidKinds := [.data, .sentinel], laidTests := true, laidLooks := .later }
def DrawApartUptoCardSaid : Prop := Claim7.holds Tryd.pinned (.plain (OpenSpec.upto drawApartSpec)) drawApartUptoCard

/-- THE SECOND FORM's CARD OF 'stockadelaw04.DrawNumbers'. -/
def drawNumbersUptoCard : Claim7 := { stood := { row := drawNumbersUptoRow, standIns := [], harness := (true, "78d58d20c8ea1b7057d985489c1e307a4e22ff467935b61a7dc85fb454b48089"), looks := true }, kinds := [], alts := [], laidByText := true, laidKinds := [.data, .sentinel], laidTests := true, laidLooks := .later }
def DrawNumbersUptoCardSaid : Prop := Claim7.holds Tryd.pinned (.plain (OpenSpec.upto drawNumbersSpec)) drawNumbersUptoCard

/-- THE SECOND FORM's CARD OF 'stockadelaw04.DrawTicks'. -/
def drawTicksUptoCard : Claim7 := { stood := { row := drawTicksUptoRow, standIns := [], harness := (true, "78d58d20c8ea1b7057d985489c1e307a4e22ff467935b61a7dc85fb454b48089"), looks := true }, kinds := [], alts := [], laidByText := true, laidKinds := [.data, .sentinel], laidTests := true, laidLooks := .later }
def DrawTicksUptoCardSaid : Prop := Claim7.holds Tryd.pinned (.plain (OpenSpec.upto drawTicksSpec)) drawTicksUptoCard

/-- THE SECOND FORM's CARD OF 'stockadelaw04.DrawRange'. -/
def drawRangeUptoCard : Claim7 := { stood := { row := drawRangeUptoRow, standIns := [], harness := (true, "78d58d20c8ea1b7057d985489c1e307a4e22ff467935b61a7dc85fb454b48089"), looks := true }, kinds := [], alts := [], laidByText := true, laidKinds := [.data, .sentinel, .sentinel, .sentinel, .sentinel, .sentinel, .sentinel, .sentinel, .sentinel, .sentinel, .sentinel, .sentinel, .sentinel, .sentinel, .sentinel, .sentinel, .sentinel, .sentinel], laidTests := true, laidLooks := .later }
def DrawRangeUptoCardSaid : Prop := Claim7.holds Tryd.pinned (.plain (OpenSpec.upto drawRangeSpec)) drawRangeUptoCard

/-- THE SECOND FORM's CARD OF 'stockadelaw04.DrawWords'. -/
def drawWordsUptoCard : Claim7 := { stood := { row := drawWordsUptoRow, standIns := [], harness := (true, "78d58d20c8ea1b7057d985489c1e307a4e22ff467935b61a7dc85fb454b48089"), looks := true }, kinds := [], alts := [], laidByText := true, laidKinds := [.data, .sentinel, .sentinel, .sentinel, .sentinel, .sentinel, .sentinel, .sentinel, .sentinel, .sentinel, .sentinel, .sentinel, .sentinel, .sentinel, .sentinel, .sentinel, .sentinel, .sentinel], laidTests := true, laidLooks := .later }
def DrawWordsUptoCardSaid : Prop := Claim7.holds Tryd.pinned (.plain (OpenSpec.upto drawWordsSpec)) drawWordsUptoCard

/-- THE SECOND FORM's CARD OF 'stockadelaw04.DrawPlays'. -/
def drawPlaysUptoCard : Claim7 := { stood := { row := drawPlaysUptoRow, standIns := [], harness := (true, "78d58d20c8ea1b7057d985489c1e307a4e22ff467935b61a7dc85fb454b48089"), looks := true }, kinds := [], alts := [], laidByText := true, laidKinds := [.data, .sentinel, .sentinel, .sentinel, .sentinel, .sentinel, .sentinel, .sentinel, .sentinel, .sentinel, .sentinel, .sentinel, .sentinel, .sentinel, .sentinel, .sentinel, .sentinel, .sentinel], laidTests := true, laidLooks := .later }
def DrawPlaysUptoCardSaid : Prop := Claim7.holds Tryd.pinned (.plain (OpenSpec.upto drawPlaysSpec)) drawPlaysUptoCard
end Rows
end Go.Proofs.YtjknjjcdgniodaaDoor
