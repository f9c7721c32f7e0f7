/-
  DERIVED. GIVEN WITH THE SEED: THE CARDS: each row of YtalihehmbiohlaaDoorRows.lean that lists a variable, with what it lists TIED to the program's text (the seventh form; the later family's looks); each row that meets fmt, with fmt's text TOLD by the authors' own Lean function (tested against real Go, not proved from fmt's source: count such statements apart). THE CARD IS WHAT COUNTS. Prove the row's statement (the work); the ties are given (YtalihehmbiohlaaDoorTie.lean); close each card by the builder's one call (the guide's Derived/Test/ToyasCard.lean, 'card_holds'). Laid BY PROGRAM, IN A SANDBOX (cutbox-door.mjs). By AI agents, Wed Nov 11 2026. No macro, syntax, notation, axiom, sorry.
-/
import Derived.Test.YtalihehmbiohlaaDoorRows
import GoSem.ClaimSeven
namespace Go.Proofs.YtalihehmbiohlaaDoor
namespace Rows

/-- THE TIED CARD OF 'stockadelaw18.OrderLocks'. -/
def orderLocksCard : Claim7 := { stood := { row := orderLocksRow, standIns := [], harness := (true, "f315e02efe92284fc737d958f3e0674a3b0e61c4a5a75daeb24b535ead70b914"), looks := true }, kinds := [], alts := [], laidByText := true, laidKinds := [.sentinel], laidTests := true, laidLooks := .later }
def OrderLocksCardSaid : Prop := Claim7.holds Tryd.pinned (.plain (OpenSpec.ofChange orderLocksSpec)) orderLocksCard

/-- THE TIED CARD OF 'stockadelaw18.OrderCuts'. -/
def orderCutsCard : Claim7 := { stood := { row := orderCutsRow, standIns := [], harness := (true, "f315e02efe92284fc737d958f3e0674a3b0e61c4a5a75daeb24b535ead70b914"), looks := true }, kinds := [], alts := [], laidByText := true, laidKinds := [.sentinel], laidTests := true, laidLooks := .later }
def OrderCutsCardSaid : Prop := Claim7.holds Tryd.pinned (.plain (OpenSpec.ofChange orderCutsSpec)) orderCutsCard

/-- THE TIED CARD OF 'stockadelaw18.OrderReads'. -/
def orderReadsCard : Claim7 := { stood := { row := orderReadsRow, standIns := [], harness := (true, "f315e02efe92284fc737d958f3e0674a3b0e61c4a5a75daeb24b535ead70b914"), looks := true }, kinds := [], alts := [], laidByText := true, laidKinds := [.sentinel], laidTests := true, laidLooks := .later }
def OrderReadsCardSaid : Prop := Claim7.holds Tryd.pinned (.plain (OpenSpec.ofChange orderReadsSpec)) orderReadsCard

/-- THE TIED CARD OF 'stockadelaw18.OrderChains'. -/
def orderChainsCard : Claim7 := { stood := { row := orderChainsRow, standIns := [], harness := (true, "f315e02efe92284fc737d958f3e0674a3b0e61c4a5a75daeb24b535ead70b914"), looks := true }, kinds := [], alts := [], laidByText := true, laidKinds := [.sentinel], laidTests := true, laidLooks := .later }
def OrderChainsCardSaid : Prop := Claim7.holds Tryd.pinned (.plain (OpenSpec.ofChange orderChainsSpec)) orderChainsCard

/-- THE TIED CARD OF 'stockadelaw18.OrderTells'. -/
def orderTellsCard : Claim7 := { stood := { row := orderTellsRow, standIns := [], harness := (true, "f315e02efe92284fc737d958f3e0674a3b0e61c4a5a75daeb24b535ead70b914"), looks := true }, kinds := [], alts := [], laidByText := true, laidKinds := [.sentinel, .sentinel, .sentinel, .sentinel, .sentinel, .sentinel, .sentinel, .sentinel, .sentinel, .sentinel, .sentinel, .sentinel, .sentinel, .sentinel, .sentinel, .sentinel, .sentinel], laidTests := true, laidLooks := .later }
def OrderTellsCardSaid : Prop := Claim7.holds Tryd.pinned (.plain (OpenSpec.ofChange orderTellsSpec)) orderTellsCard

/-- THE TIED CARD OF 'stockadelaw18.OrderRaces'. -/
def orderRacesCard : Claim7 := { stood := { row := orderRacesRow, standIns := [], harness := (true, "f315e02efe92284fc737d958f3e0674a3b0e61c4a5a75daeb24b535ead70b914"), looks := true }, kinds := [], alts := [], laidByText := true, laidKinds := [.sentinel, .sentinel, .sentinel, .sentinel, .sentinel, .sentinel, .sentinel, .sentinel, .sentinel, .sentinel, .sentinel, .sentinel, .sentinel, .sentinel, .sentinel, .sentinel, .sentinel], laidTests := true, laidLooks := .later }
def OrderRacesCardSaid : Prop := Claim7.holds Tryd.pinned (.plain (OpenSpec.ofChange orderRacesSpec)) orderRacesCard

/-- THE SECOND FORM's CARD OF 'stockadelaw18.OrderLocks'. -/
def orderLocksUptoCard : Claim7 := { stood := { row := orderLocksUptoRow, standIns := [], harness := (true, "f315e02efe92284fc737d958f3e0674a3b0e61c4a5a75daeb24b535ead70b914"), looks := true }, kinds := [], alts := [], laidByText := true, laidKinds := [.sentinel], laidTests := true, laidLooks := .later }
def OrderLocksUptoCardSaid : Prop := Claim7.holds Tryd.pinned (.plain (OpenSpec.upto orderLocksSpec)) orderLocksUptoCard

/-- THE SECOND FORM's CARD OF 'stockadelaw18.OrderCuts'. -/
def orderCutsUptoCard : Claim7 := { stood := { row := orderCutsUptoRow, standIns := [], harness := (true, "f315e02efe92284fc737d958f3e0674a3b0e61c4a5a75daeb24b535ead70b914"), looks := true }, kinds := [], alts := [], laidByText := true, laidKinds := [.sentinel], laidTests := true, laidLooks := .later }
def OrderCutsUptoCardSaid : Prop := Claim7.holds Tryd.pinned (.plain (OpenSpec.upto orderCutsSpec)) orderCutsUptoCard

/-- THE SECOND FORM's CARD OF 'stockadelaw18.OrderReads'. -/
def orderReadsUptoCard : Claim7 := { stood := { row := orderReadsUptoRow, standIns := [], harness := (true, "f315e02efe92284fc737d958f3e0674a3b0e61c4a5a75daeb24b535ead70b914"), looks := true }, kinds := [], alts := [], laidByText := true, laidKinds := [.sentinel], laidTests := true, laidLooks := .later }
def OrderReadsUptoCardSaid : Prop := Claim7.holds Tryd.pinned (.plain (OpenSpec.upto orderReadsSpec)) orderReadsUptoCard

/-- THE SECOND FORM's CARD OF 'stockadelaw18.OrderChains'. -/
def orderChainsUptoCard : Claim7 := { stood := { row := orderChainsUptoRow, standIns := [], harness := (true, "f315e02efe92284fc737d958f3e0674a3b0e61c4a5a75daeb24b535ead70b914"), looks := true }, kinds := [], alts := [], laidByText := true, laidKinds := [.sentinel], laidTests := true, laidLooks := .later }
def OrderChainsUptoCardSaid : Prop := Claim7.holds Tryd.pinned (.plain (OpenSpec.upto orderChainsSpec)) orderChainsUptoCard

/-- THE SECOND FORM's CARD OF 'stockadelaw18.OrderTells'. -/
def orderTellsUptoCard : Claim7 := { stood := { row := orderTellsUptoRow, standIns := [], harness := (true, "f315e02efe92284fc737d958f3e0674a3b0e61c4a5a75daeb24b535ead70b914"), looks := true }, kinds := [], alts := [], laidByText := true, laidKinds := [.sentinel, .sentinel, .sentinel, .sentinel, .sentinel, .sentinel, .sentinel, .sentinel, .sentinel, .sentinel, .sentinel, .sentinel, .sentinel, .sentinel, .sentinel, .sentinel, .sentinel], laidTests := true, laidLooks := .later }
def OrderTellsUptoCardSaid : Prop := Claim7.holds Tryd.pinned (.plain (OpenSpec.upto orderTellsSpec)) orderTellsUptoCard

/-- THE SECOND FORM's CARD OF 'stockadelaw18.OrderRaces'. -/
def orderRacesUptoCard : Claim7 := { stood := { row := orderRacesUptoRow, standIns := [], harness := (true, "f315e02efe92284fc737d958f3e0674a3b0e61c4a5a75daeb24b535ead70b914"), looks := true }, kinds := [], alts := [], laidByText := true, laidKinds := [.sentinel, .sentinel, .sentinel, .sentinel, .sentinel, .sentinel, .sentinel, .sentinel, .sentinel, .sentinel, .sentinel, .sentinel, .sentinel, .sentinel, .sentinel, .sentinel, .sentinel], laidTests := true, laidLooks := .later }
def OrderRacesUptoCardSaid : Prop := Claim7.holds Tryd.pinned (.plain (OpenSpec.upto orderRacesSpec)) orderRacesUptoCard
end Rows
end Go.Proofs.YtalihehmbiohlaaDoor
