/-
  DERIVED. GIVEN WITH THE SEED: THE CARDS: each row of YtnpneippahdigaaDoorRows.lean that lists a variable, with what it lists TIED to the program's text (the seventh form; the later family's looks); each row that meets fmt, with fmt's text TOLD by the authors' own Lean function (tested against real Go, not proved from fmt's source: count such statements apart). THE CARD IS WHAT COUNTS. Prove the row's statement (the work); the ties are given (YtnpneippahdigaaDoorTie.lean); close each card by the builder's one call (the guide's Derived/Test/ToyasCard.lean, 'card_holds'). Laid BY PROGRAM, IN A SANDBOX (cutbox-door.mjs). By AI agents, Wed Nov 11 2026. No macro, syntax, notation, axiom, sorry.
-/
import Derived.Test.YtnpneippahdigaaDoorRows
import GoSem.ClaimSeven
namespace Go.Proofs.YtnpneippahdigaaDoor
namespace Rows

/-- THE TIED CARD OF 'stockadelaw20.ReportForms'. -/
def reportFormsCard : Claim7 := { stood := { row := reportFormsRow, standIns := [], harness := (true, "8b93f9d841f86b3f07a95577fbcfb8019fbede22e86e5ff5b7099bd2bf89e386"), looks := true }, kinds := [], alts := [], laidByText := true, laidKinds := [.sentinel, .sentinel, .sentinel, .sentinel, .sentinel, .sentinel, .sentinel, .sentinel, .sentinel, .sentinel, .sentinel, .sentinel, .sentinel, .sentinel, .sentinel, .sentinel, .sentinel], laidTests := true, laidLooks := .later }
def ReportFormsCardSaid : Prop := Claim7.holds Tryd.pinned (.plain (OpenSpec.ofChange reportFormsSpec)) reportFormsCard

/-- THE TIED CARD OF 'stockadelaw20.ReportBytes'. -/
def reportBytesCard : Claim7 := { stood := { row := reportBytesRow, standIns := [], harness := (true, "8b93f9d841f86b3f07a95577fbcfb8019fbede22e86e5ff5b7099bd2bf89e386"), looks := true }, kinds := [], alts := [], laidByText := true, laidKinds := [.sentinel, .sentinel, .sentinel, .sentinel, .sentinel, .sentinel, .sentinel, .sentinel, .sentinel, .sentinel, .sentinel, .sentinel, .sentinel, .sentinel, .sentinel, .sentinel, .sentinel], laidTests := true, laidLooks := .later }
def ReportBytesCardSaid : Prop := Claim7.holds Tryd.pinned (.plain (OpenSpec.ofChange reportBytesSpec)) reportBytesCard

/-- THE TIED CARD OF 'stockadelaw20.ReportCuts'. -/
def reportCutsCard : Claim7 := { stood := { row := reportCutsRow, standIns := [], harness := (true, "8b93f9d841f86b3f07a95577fbcfb8019fbede22e86e5ff5b7099bd2bf89e386"), looks := true }, kinds := [], alts := [], laidByText := true, laidKinds := [.sentinel, .sentinel, .sentinel, .sentinel, .sentinel, .sentinel, .sentinel, .sentinel, .sentinel, .sentinel, .sentinel, .sentinel, .sentinel, .sentinel, .sentinel, .sentinel, .sentinel], laidTests := true, laidLooks := .later }
def ReportCutsCardSaid : Prop := Claim7.holds Tryd.pinned (.plain (OpenSpec.ofChange reportCutsSpec)) reportCutsCard

/-- THE TIED CARD OF 'stockadelaw21.WireSeals'. -/
def wireSealsCard : Claim7 := { stood := { row := wireSealsRow, standIns := [], harness := (true, "8b93f9d841f86b3f07a95577fbcfb8019fbede22e86e5ff5b7099bd2bf89e386"), looks := true }, kinds := [], alts := [], laidByText := true, laidKinds := [.data, .sentinel], laidTests := true, laidLooks := .later }
def WireSealsCardSaid : Prop := Claim7.holds Tryd.pinned (.plain (OpenSpec.ofChange wireSealsSpec)) wireSealsCard

/-- THE TIED CARD OF 'stockadelaw21.WireAsks'. -/
def wireAsksCard : Claim7 := { stood := { row := wireAsksRow, standIns := [], harness := (true, "8b93f9d841f86b3f07a95577fbcfb8019fbede22e86e5ff5b7099bd2bf89e386"), looks := true }, kinds := [], alts := [], laidByText := true, laidKinds := [.data, .sentinel, .sentinel, .sentinel, .sentinel, .sentinel, .sentinel, .sentinel, .sentinel, .sentinel, .sentinel, .sentinel, .sentinel, .sentinel, .sentinel, .sentinel, .sentinel, .sentinel], laidTests := true, laidLooks := .later }
def WireAsksCardSaid : Prop := Claim7.holds Tryd.pinned (.plain (OpenSpec.ofChange wireAsksSpec)) wireAsksCard

/-- THE TIED CARD OF 'stockadelaw21.WireShort'. -/
def wireShortCard : Claim7 := { stood := { row := wireShortRow, standIns := [], harness := (true, "8b93f9d841f86b3f07a95577fbcfb8019fbede22e86e5ff5b7099bd2bf89e386"), looks := true }, kinds := [], alts := [], laidByText := true, laidKinds := [.data, .sentinel, .sentinel, .sentinel, .sentinel, .sentinel, .sentinel, .sentinel, .sentinel, .sentinel, .sentinel, .sentinel, .sentinel, .sentinel, .sentinel, .sentinel, .sentinel, .sentinel], laidTests := true, laidLooks := .later }
def WireShortCardSaid : Prop := Claim7.holds Tryd.pinned (.plain (OpenSpec.ofChange wireShortSpec)) wireShortCard

/-- THE TIED CARD OF 'stockadelaw21.WireOpens'. -/
def wireOpensCard : Claim7 := { stood := { row := wireOpensRow, standIns := [], harness := (true, "8b93f9d841f86b3f07a95577fbcfb8019fbede22e86e5ff5b7099bd2bf89e386"), looks := true }, kinds := [], alts := [], laidByText := true, laidKinds := [.data, .sentinel, .sentinel, .sentinel, .sentinel, .sentinel, .sentinel, .sentinel, .sentinel, .sentinel, .sentinel, .sentinel, .sentinel, .sentinel, .sentinel, .sentinel, .sentinel, .sentinel], laidTests := true, laidLooks := .later }
def WireOpensCardSaid : Prop := Claim7.holds Tryd.pinned (.plain (OpenSpec.ofChange wireOpensSpec)) wireOpensCard

/-- THE TIED CARD OF 'stockadelaw21.WireReads'. -/
def wireReadsCard : Claim7 := { stood := { row := wireReadsRow, standIns := [], harness := (true, "8b93f9d841f86b3f07a95577fbcfb8019fbede22e86e5ff5b7099bd2bf89e386"), looks := true }, kinds := [], alts := [], laidByText := true, laidKinds := [.data, .sentinel, .sentinel, .sentinel, .sentinel, .sentinel, .sentinel, .sentinel, .sentinel, .sentinel, .sentinel, .sentinel, .sentinel, .sentinel, .sentinel, .sentinel, .sentinel, .sentinel], laidTests := true, laidLooks := .later }
def WireReadsCardSaid : Prop := Claim7.holds Tryd.pinned (.plain (OpenSpec.ofChange wireReadsSpec)) wireReadsCard

/-- THE TIED CARD OF 'stockadelaw21.WireFrames'. -/
def wireFramesCard : Claim7 := { stood := { row := wireFramesRow, standIns := [], harness := (true, "8b93f9d841f86b3f07a95577fbcfb8019fbede22e86e5ff5b7099bd2bf89e386"), looks := true }, kinds := [], alts := [], laidByText := true, laidKinds := [.data, .sentinel, .sentinel, .sentinel, .sentinel, .sentinel, .sentinel, .sentinel, .sentinel, .sentinel, .sentinel, .sentinel, .sentinel, .sentinel, .sentinel, .sentinel, .sentinel, .sentinel], laidTests := true, laidLooks := .later }
def WireFramesCardSaid : Prop := Claim7.holds Tryd.pinned (.plain (OpenSpec.ofChange wireFramesSpec)) wireFramesCard

/-- THE TIED CARD OF 'stockadelaw21.WireSeqs'. -/
def wireSeqsCard : Claim7 := { stood := { row := wireSeqsRow, standIns := [], harness := (true, "8b93f9d841f86b3f07a95577fbcfb8019fbede22e86e5ff5b7099bd2bf89e386"), looks := true }, kinds := [], alts := [], laidByText := true, laidKinds := [.data, .sentinel, .sentinel, .sentinel, .sentinel, .sentinel, .sentinel, .sentinel, .sentinel, .sentinel, .sentinel, .sentinel, .sentinel, .sentinel, .sentinel, .sentinel, .sentinel, .sentinel], laidTests := true, laidLooks := .later }
def WireSeqsCardSaid : Prop := Claim7.holds Tryd.pinned (.plain (OpenSpec.ofChange wireSeqsSpec)) wireSeqsCard

/-- THE TIED CARD OF 'stockadelaw20.ReportRooms'. -/
def reportRoomsCard : Claim7 := { stood := { row := reportRoomsRow, standIns := [], harness := (true, "8b93f9d841f86b3f07a95577fbcfb8019fbede22e86e5ff5b7099bd2bf89e386"), looks := true }, kinds := [], alts := [], laidByText := true, laidKinds := [.sentinel, .sentinel, .sentinel, .sentinel, .sentinel, .sentinel, .sentinel, .sentinel, .sentinel, .sentinel, .sentinel, .sentinel, .sentinel, .sentinel, .sentinel, .sentinel, .sentinel], laidTests := true, laidLooks := .later }
def ReportRoomsCardSaid : Prop := Claim7.holds Tryd.pinned (.plain (OpenSpec.ofChange reportRoomsSpec)) reportRoomsCard

/-- THE TIED CARD OF 'stockadelaw20.ReportStores'. -/
def reportStoresCard : Claim7 := { stood := { row := reportStoresRow, standIns := [], harness := (true, "8b93f9d841f86b3f07a95577fbcfb8019fbede22e86e5ff5b7099bd2bf89e386"), looks := true }, kinds := [], alts := [], laidByText := true, laidKinds := [.sentinel, .sentinel, .sentinel, .sentinel, .sentinel, .sentinel, .sentinel, .sentinel, .sentinel, .sentinel, .sentinel, .sentinel, .sentinel, .sentinel, .sentinel, .sentinel, .sentinel], laidTests := true, laidLooks := .later }
def ReportStoresCardSaid : Prop := Claim7.holds Tryd.pinned (.plain (OpenSpec.ofChange reportStoresSpec)) reportStoresCard

/-- THE SECOND FORM's CARD OF 'stockadelaw20.ReportForms'. -/
def reportFormsUptoCard : Claim7 := { stood := { row := reportFormsUptoRow, standIns := [], harness := (true, "8b93f9d841f86b3f07a95577fbcfb8019fbede22e86e5ff5b7099bd2bf89e386"), looks := true }, kinds := [], alts := [], laidByText := true, laidKinds := [.sentinel, .sentinel, .sentinel, .sentinel, .sentinel, .sentinel, .sentinel, .sentinel, .sentinel, .sentinel, .sentinel, .sentinel, .sentinel, .sentinel, .sentinel, .sentinel, .sentinel], laidTests := true, laidLooks := .later }
def ReportFormsUptoCardSaid : Prop := Claim7.holds Tryd.pinned (.plain (OpenSpec.upto reportFormsSpec)) reportFormsUptoCard

/-- THE SECOND FORM's CARD OF 'stockadelaw20.ReportBytes'. -/
def reportBytesUptoCard : Claim7 := { stood := { row := reportBytesUptoRow, standIns := [], harness := (true, "8b93f9d841f86b3f07a95577fbcfb8019fbede22e86e5ff5b7099bd2bf89e386"), looks := true }, kinds := [], alts := [], laidByText := true, laidKinds := [.sentinel, .sentinel, .sentinel, .sentinel, .sentinel, .sentinel, .sentinel, .sentinel, .sentinel, .sentinel, .sentinel, .sentinel, .sentinel, .sentinel, .sentinel, .sentinel, .sentinel], laidTests := true, laidLooks := .later }
def ReportBytesUptoCardSaid : Prop := Claim7.holds Tryd.pinned (.plain (OpenSpec.upto reportBytesSpec)) reportBytesUptoCard

/-- THE SECOND FORM's CARD OF 'stockadelaw20.ReportCuts'. -/
def reportCutsUptoCard : Claim7 := { stood := { row := reportCutsUptoRow, standIns := [], harness := (true, "8b93f9d841f86b3f07a95577fbcfb8019fbede22e86e5ff5b7099bd2bf89e386"), looks := true }, kinds := [], alts := [], laidByText := true, laidKinds := [.sentinel, .sentinel, .sentinel, .sentinel, .sentinel, .sentinel, .sentinel, .sentinel, .sentinel, .sentinel, .sentinel, .sentinel, .sentinel, .sentinel, .sentinel, .sentinel, .sentinel], laidTests := true, laidLooks := .later }
def ReportCutsUptoCardSaid : Prop := Claim7.holds Tryd.pinned (.plain (OpenSpec.upto reportCutsSpec)) reportCutsUptoCard

/-- THE SECOND FORM's CARD OF 'stockadelaw21.WireSeals'. -/
def wireSealsUptoCard : Claim7 := { stood := { row := wireSealsUptoRow, standIns := [], harness := (true, "8b93f9d841f86b3f07a95577fbcfb8019fbede22e86e5ff5b7099bd2bf89e386"), looks := true }, kinds := [], alts := [], laidByText := true, laidKinds := [.data, .sentinel], laidTests := true, laidLooks := .later }
def WireSealsUptoCardSaid : Prop := Claim7.holds Tryd.pinned (.plain (OpenSpec.upto wireSealsSpec)) wireSealsUptoCard

/-- THE SECOND FORM's CARD OF 'stockadelaw21.WireAsks'. -/
def wireAsksUptoCard : Claim7 := { stood := { row := wireAsksUptoRow, standIns := [], harness := (true, "8b93f9d841f86b3f07a95577fbcfb8019fbede22e86e5ff5b7099bd2bf89e386"), looks := true }, kinds := [], alts := [], laidByText := true, laidKinds := [.data, .sentinel, .sentinel, .sentinel, .sentinel, .sentinel, .sentinel, .sentinel, .sentinel, .sentinel, .sentinel, .sentinel, .sentinel, .sentinel, .sentinel, .sentinel, .sentinel, .sentinel], laidTests := true, laidLooks := .later }
def WireAsksUptoCardSaid : Prop := Claim7.holds Tryd.pinned (.plain (OpenSpec.upto wireAsksSpec)) wireAsksUptoCard

/-- THE SECOND FORM's CARD OF 'stockadelaw21.WireShort'. -/
def wireShortUptoCard : Claim7 := { stood := { row := wireShortUptoRow, standIns := [], harness := (true, "8b93f9d841f86b3f07a95577fbcfb8019fbede22e86e5ff5b7099bd2bf89e386"), looks := true }, kinds := [], alts := [], laidByText := true, laidKinds := [.data, .sentinel, .sentinel, .sentinel, .sentinel, .sentinel, .sentinel, .sentinel, .sentinel, .sentinel, .sentinel, .sentinel, .sentinel, .sentinel, .sentinel, .sentinel, .sentinel, .sentinel], laidTests := true, laidLooks := .later }
def WireShortUptoCardSaid : Prop := Claim7.holds Tryd.pinned (.plain (OpenSpec.upto wireShortSpec)) wireShortUptoCard

/-- THE SECOND FORM's CARD OF 'stockadelaw21.WireOpens'. -/
def wireOpensUptoCard : Claim7 := { stood := { row := wireOpensUptoRow, standIns := [], harness := (true, "8b93f9d841f86b3f07a95577fbcfb8019fbede22e86e5ff5b7099bd2bf89e386"), looks := true }, kinds := [], alts := [], laidByText := true, laidKinds := [.data, .sentinel, .sentinel, .sentinel, .sentinel, .sentinel, .sentinel, .sentinel, .sentinel, .sentinel, .sentinel, .sentinel, .sentinel, .sentinel, .sentinel, .sentinel, .sentinel, .sentinel], laidTests := true, laidLooks := .later }
def WireOpensUptoCardSaid : Prop := Claim7.holds Tryd.pinned (.plain (OpenSpec.upto wireOpensSpec)) wireOpensUptoCard

/-- THE SECOND FORM's CARD OF 'stockadelaw21.WireReads'. -/
def wireReadsUptoCard : Claim7 := { stood := { row := wireReadsUptoRow, standIns := [], harness := (true, "8b93f9d841f86b3f07a95577fbcfb8019fbede22e86e5ff5b7099bd2bf89e386"), looks := true }, kinds := [], alts := [], laidByText := true, laidKinds := [.data, .sentinel, .sentinel, .sentinel, .sentinel, .sentinel, .sentinel, .sentinel, .sentinel, .sentinel, .sentinel, .sentinel, .sentinel, .sentinel, .sentinel, .sentinel, .sentinel, .sentinel], laidTests := true, laidLooks := .later }
def WireReadsUptoCardSaid : Prop := Claim7.holds Tryd.pinned (.plain (OpenSpec.upto wireReadsSpec)) wireReadsUptoCard

/-- THE SECOND FORM's CARD OF 'stockadelaw21.WireFrames'. -/
def wireFramesUptoCard : Claim7 := { stood := { row := wireFramesUptoRow, standIns := [], harness := (true, "8b93f9d841f86b3f07a95577fbcfb8019fbede22e86e5ff5b7099bd2bf89e386"), looks := true }, kinds := [], alts := [], laidByText := true, laidKinds := [.data, .sentinel, .sentinel, .sentinel, .sentinel, .sentinel, .sentinel, .sentinel, .sentinel, .sentinel, .sentinel, .sentinel, .sentinel, .sentinel, .sentinel, .sentinel, .sentinel, .sentinel], laidTests := true, laidLooks := .later }
def WireFramesUptoCardSaid : Prop := Claim7.holds Tryd.pinned (.plain (OpenSpec.upto wireFramesSpec)) wireFramesUptoCard

/-- THE SECOND FORM's CARD OF 'stockadelaw21.WireSeqs'. -/
def wireSeqsUptoCard : Claim7 := { stood := { row := wireSeqsUptoRow, standIns := [], harness := (true, "8b93f9d841f86b3f07a95577fbcfb8019fbede22e86e5ff5b7099bd2bf89e386"), looks := true }, kinds := [], alts := [], laidByText := true, laidKinds := [.data, .sentinel, .sentinel, .sentinel, .sentinel, .sentinel, .sentinel, .sentinel, .sentinel, .sentinel, .sentinel, .sentinel, .sentinel, .sentinel, .sentinel, .sentinel, .sentinel, .sentinel], laidTests := true, laidLooks := .later }
def WireSeqsUptoCardSaid : Prop := Claim7.holds Tryd.pinned (.plain (OpenSpec.upto wireSeqsSpec)) wireSeqsUptoCard

/-- THE SECOND FORM's CARD OF 'stockadelaw20.ReportRooms'. -/
def reportRoomsUptoCard : Claim7 := { stood := { row := reportRoomsUptoRow, standIns := [], harness := (true, "8b93f9d841f86b3f07a95577fbcfb8019fbede22e86e5ff5b7099bd2bf89e386"), looks := true }, kinds := [], alts := [], laidByText := true, laidKinds := [.sentinel, .sentinel, .sentinel, .sentinel, .sentinel, .sentinel, .sentinel, .sentinel, .sentinel, .sentinel, .sentinel, .sentinel, .sentinel, .sentinel, .sentinel, .sentinel, .sentinel], laidTests := true, laidLooks := .later }
def ReportRoomsUptoCardSaid : Prop := Claim7.holds Tryd.pinned (.plain (OpenSpec.upto reportRoomsSpec)) reportRoomsUptoCard

/-- THE SECOND FORM's CARD OF 'stockadelaw20.ReportStores'. -/
def reportStoresUptoCard : Claim7 := { stood := { row := reportStoresUptoRow, standIns := [], harness := (true, "8b93f9d841f86b3f07a95577fbcfb8019fbede22e86e5ff5b7099bd2bf89e386"), looks := true }, kinds := [], alts := [], laidByText := true, laidKinds := [.sentinel, .sentinel, .sentinel, .sentinel, .sentinel, .sentinel, .sentinel, .sentinel, .sentinel, .sentinel, .sentinel, .sentinel, .sentinel, .sentinel, .sentinel, .sentinel, .sentinel], laidTests := true, laidLooks := .later }
def ReportStoresUptoCardSaid : Prop := Claim7.holds Tryd.pinned (.plain (OpenSpec.upto reportStoresSpec)) reportStoresUptoCard
end Rows
end Go.Proofs.YtnpneippahdigaaDoor
