/-
  DERIVED. GIVEN WITH THE SEED: THE CARDS: each row of YtmfnlloabaoagaaGreatDoorRows.lean that lists a variable, with what it lists TIED to the program's text (the seventh form; the later family's looks); each row that meets fmt, with fmt's text TOLD by the authors' own Lean function (tested against real Go, not proved from fmt's source: count such statements apart). THE CARD IS WHAT COUNTS. Prove the row's statement (the work); the ties are given (YtmfnlloabaoagaaGreatDoorTie.lean); close each card by the builder's one call (the guide's Derived/Test/ToyasCard.lean, 'card_holds'). Laid BY PROGRAM, IN A SANDBOX (cutbox-door.mjs). By AI agents, Wed Nov 11 2026. No macro, syntax, notation, axiom, sorry.
-/
import Derived.Test.YtmfnlloabaoagaaGreatDoorRows
import GoSem.ClaimSeven
namespace Go.Proofs.YtmfnlloabaoagaaGreatDoor
namespace Rows

/-- THE TIED CARD OF 'tolllaw11.GrantSides'. -/
def grantSidesCard : Claim7 := { stood := { row := grantSidesRow, standIns := [], harness := (true, "6ec1423312db6a1a54ef9e3a0d06fb9cf1861275846ffe494de3cc13cf2d184a"), looks := true }, kinds := [], alts := [], laidByText := true, laidKinds := [.data, .pinned], laidTests := true, laidLooks := .later }
def GrantSidesCardSaid : Prop := Claim7.holds Tryz.pinned (.plain (OpenSpec.ofChange grantSidesSpec)) grantSidesCard

/-- THE TIED CARD OF 'tolllaw11.GrantBys'. -/
def grantBysCard : Claim7 := { stood := { row := grantBysRow, standIns := [], harness := (true, "6ec1423312db6a1a54ef9e3a0d06fb9cf1861275846ffe494de3cc13cf2d184a"), looks := true }, kinds := [], alts := [], laidByText := true, laidKinds := [.data, .pinned], laidTests := true, laidLooks := .later }
def GrantBysCardSaid : Prop := Claim7.holds Tryz.pinned (.plain (OpenSpec.ofChange grantBysSpec)) grantBysCard

/-- THE TIED CARD OF 'tolllaw11.GrantPermits'. -/
def grantPermitsCard : Claim7 := { stood := { row := grantPermitsRow, standIns := [], harness := (true, "6ec1423312db6a1a54ef9e3a0d06fb9cf1861275846ffe494de3cc13cf2d184a"), looks := true }, kinds := [], alts := [], laidByText := true, laidKinds := [.data, .pinned], laidTests := true, laidLooks := .later }
def GrantPermitsCardSaid : Prop := Claim7.holds Tryz.pinned (.plain (OpenSpec.ofChange grantPermitsSpec)) grantPermitsCard

/-- THE TIED CARD OF 'tolllaw12.ListenTells'. -/
def listenTellsCard : Claim7 := { stood := { row := listenTellsRow, standIns := [], harness := (true, "6ec1423312db6a1a54ef9e3a0d06fb9cf1861275846ffe494de3cc13cf2d184a"), looks := true }, kinds := [], alts := [], laidByText := true, laidKinds := [.data, .pinned], laidTests := true, laidLooks := .later }
def ListenTellsCardSaid : Prop := Claim7.holds Tryz.pinned (.plain (OpenSpec.ofChange listenTellsSpec)) listenTellsCard

/-- THE TIED CARD OF 'tolllaw14.BackTells'. -/
def backTellsCard : Claim7 := { stood := { row := backTellsRow, standIns := [], harness := (true, "6ec1423312db6a1a54ef9e3a0d06fb9cf1861275846ffe494de3cc13cf2d184a"), looks := true }, kinds := [], alts := [], laidByText := true, laidKinds := [.data, .pinned], laidTests := true, laidLooks := .later }
def BackTellsCardSaid : Prop := Claim7.holds Tryz.pinned (.plain (OpenSpec.ofChange backTellsSpec)) backTellsCard

/-- THE TIED CARD OF 'tolllaw10.StoreEvents'. -/
def storeEventsCard : Claim7 := { stood := { row := storeEventsRow, standIns := [], harness := (true, "6ec1423312db6a1a54ef9e3a0d06fb9cf1861275846ffe494de3cc13cf2d184a"), looks := true }, kinds := [], alts := [], laidByText := true, laidKinds := [.data, .pinned], laidTests := true, laidLooks := .later }
def StoreEventsCardSaid : Prop := Claim7.holds Tryz.pinned (.plain (OpenSpec.ofChange storeEventsSpec)) storeEventsCard

/-- THE TIED CARD OF 'tolllaw13.AttachAt'. -/
def attachAtCard : Claim7 := { stood := { row := attachAtRow, standIns := [], harness := (true, "6ec1423312db6a1a54ef9e3a0d06fb9cf1861275846ffe494de3cc13cf2d184a"), looks := true }, kinds := [], alts := [], laidByText := true, laidKinds := [.data, .pinned], laidTests := true, laidLooks := .later }
def AttachAtCardSaid : Prop := Claim7.holds Tryz.pinned (.plain (OpenSpec.ofChange attachAtSpec)) attachAtCard

/-- THE TIED CARD OF 'tolllaw13.AttachHosts'. -/
def attachHostsCard : Claim7 := { stood := { row := attachHostsRow, standIns := [], harness := (true, "6ec1423312db6a1a54ef9e3a0d06fb9cf1861275846ffe494de3cc13cf2d184a"), looks := true }, kinds := [], alts := [], laidByText := true, laidKinds := [.data, .pinned], laidTests := true, laidLooks := .later }
def AttachHostsCardSaid : Prop := Claim7.holds Tryz.pinned (.plain (OpenSpec.ofChange attachHostsSpec)) attachHostsCard

/-- THE TIED CARD OF 'tolllaw13.AttachOne'. -/
def attachOneCard : Claim7 := { stood := { row := attachOneRow, standIns := [], harness := (true, "6ec1423312db6a1a54ef9e3a0d06fb9cf1861275846ffe494de3cc13cf2d184a"), looks := true }, kinds := [], alts := [], laidByText := true, laidKinds := [.data, .pinned], laidTests := true, laidLooks := .later }
def AttachOneCardSaid : Prop := Claim7.holds Tryz.pinned (.plain (OpenSpec.ofChange attachOneSpec)) attachOneCard

/-- THE TIED CARD OF 'tolllaw13.AttachOthers'. -/
def attachOthersCard : Claim7 := { stood := { row := attachOthersRow, standIns := [], harness := (true, "6ec1423312db6a1a54ef9e3a0d06fb9cf1861275846ffe494de3cc13cf2d184a"), looks := true }, kinds := [], alts := [], laidByText := true, laidKinds := [.data, .pinned], laidTests := true, laidLooks := .later }
def AttachOthersCardSaid : Prop := Claim7.holds Tryz.pinned (.plain (OpenSpec.ofChange attachOthersSpec)) attachOthersCard

/-- THE TIED CARD OF 'tolllaw10.StoreTells'. -/
def storeTellsCard : Claim7 := { stood := { row := storeTellsRow, standIns := [], harness := (true, "6ec1423312db6a1a54ef9e3a0d06fb9cf1861275846ffe494de3cc13cf2d184a"), looks := true }, kinds := [], alts := [], laidByText := true, laidKinds := [.data, .pinned], laidTests := true, laidLooks := .later }
def StoreTellsCardSaid : Prop := Claim7.holds Tryz.pinned (.plain (OpenSpec.ofChange storeTellsSpec)) storeTellsCard

/-- THE SECOND FORM's CARD OF 'tolllaw11.GrantSides'. -/
def grantSidesUptoCard : Claim7 := { stood := { row := grantSidesUptoRow, standIns := [], harness := (true, "6ec1423312db6a1a54ef9e3a0d06fb9cf1861275846ffe494de3cc13cf2d184a"), looks := true }, kinds := [], alts := [], laidByText := true, laidKinds := [.data, .pinned], laidTests := true, laidLooks := .later }
def GrantSidesUptoCardSaid : Prop := Claim7.holds Tryz.pinned (.plain (OpenSpec.upto grantSidesSpec)) grantSidesUptoCard

/-- THE SECOND FORM's CARD OF 'tolllaw11.GrantBys'. -/
def grantBysUptoCard : Claim7 := { stood := { row := grantBysUptoRow, standIns := [], harness := (true, "6ec1423312db6a1a54ef9e3a0d06fb9cf1861275846ffe494de3cc13cf2d184a"), looks := true }, kinds := [], alts := [], laidByText := true, laidKinds := [.data, .pinned], laidTests := true, laidLooks := .later }
def GrantBysUptoCardSaid : Prop := Claim7.holds Tryz.pinned (.plain (OpenSpec.upto grantBysSpec)) grantBysUptoCard

/-- THE SECOND FORM's CARD OF 'tolllaw11.GrantPermits'. -/
def grantPermitsUptoCard : Claim7 := { stood := { row := grantPermitsUptoRow, standIns := [], harness := (true, "6ec1423312db6a1a54ef9e3a0d06fb9cf1861275846ffe494de3cc13cf2d184a"), looks := true }, kinds := [], alts := [], laidByText := true, laidKinds := [.data, .pinned], laidTests := true, laidLooks := .later }
def GrantPermitsUptoCardSaid : Prop := Claim7.holds Tryz.pinned (.plain (OpenSpec.upto grantPermitsSpec)) grantPermitsUptoCard

/-- THE SECOND FORM's CARD OF 'tolllaw12.ListenTells'. -/
def listenTellsUptoCard : Claim7 := { stood := { row := listenTellsUptoRow, standIns := [], harness := (true, "6ec1423312db6a1a54ef9e3a0d06fb9cf1861275846ffe494de3cc13cf2d184a"), looks := true }, kinds := [], alts := [], laidByText := true, laidKinds := [.data, .pinned], laidTests := true, laidLooks := .later }
def ListenTellsUptoCardSaid : Prop := Claim7.holds Tryz.pinned (.plain (OpenSpec.upto listenTellsSpec)) listenTellsUptoCard

/-- THE SECOND FORM's CARD OF 'tolllaw14.BackTells'. -/
def backTellsUptoCard : Claim7 := { stood := { row := backTellsUptoRow, standIns := [], harness := (true, "6ec1423312db6a1a54ef9e3a0d06fb9cf1861275846ffe494de3cc13cf2d184a"), looks := true }, kinds := [], alts := [], laidByText := true, laidKinds := [.data, .pinned], laidTests := true, laidLooks := .later }
def BackTellsUptoCardSaid : Prop := Claim7.holds Tryz.pinned (.plain (OpenSpec.upto backTellsSpec)) backTellsUptoCard

/-- THE SECOND FORM's CARD OF 'tolllaw10.StoreEvents'. -/
def storeEventsUptoCard : Claim7 := { stood := { row := storeEventsUptoRow, standIns := [], harness := (true, "6ec1423312db6a1a54ef9e3a0d06fb9cf1861275846ffe494de3cc13cf2d184a"), looks := true }, kinds := [], alts := [], laidByText := true, laidKinds := [.data, .pinned], laidTests := true, laidLooks := .later }
def StoreEventsUptoCardSaid : Prop := Claim7.holds Tryz.pinned (.plain (OpenSpec.upto storeEventsSpec)) storeEventsUptoCard

/-- THE SECOND FORM's CARD OF 'tolllaw13.AttachAt'. -/
def attachAtUptoCard : Claim7 := { stood := { row := attachAtUptoRow, standIns := [], harness := (true, "6ec1423312db6a1a54ef9e3a0d06fb9cf1861275846ffe494de3cc13cf2d184a"), looks := true }, kinds := [], alts := [], laidByText := true, laidKinds := [.data, .pinned], laidTests := true, laidLooks := .later }
def AttachAtUptoCardSaid : Prop := Claim7.holds Tryz.pinned (.plain (OpenSpec.upto attachAtSpec)) attachAtUptoCard

/-- THE SECOND FORM's CARD OF 'tolllaw13.AttachHosts'. -/
def attachHostsUptoCard : Claim7 := { stood := { row := attachHostsUptoRow, standIns := [], harness := (true, "6ec1423312db6a1a54ef9e3a0d06fb9cf1861275846ffe494de3cc13cf2d184a"), looks := true }, kinds := [], alts := [], laidByText := true, laidKinds := [.data, .pinned], laidTests := true, laidLooks := .later }
def AttachHostsUptoCardSaid : Prop := Claim7.holds Tryz.pinned (.plain (OpenSpec.upto attachHostsSpec)) attachHostsUptoCard

/-- THE SECOND FORM's CARD OF 'tolllaw13.AttachOne'. -/
def attachOneUptoCard : Claim7 := { stood := { row := attachOneUptoRow, standIns := [], harness := (true, "6ec1423312db6a1a54ef9e3a0d06fb9cf1861275846ffe494de3cc13cf2d184a"), looks := true }, kinds := [], alts := [], laidByText := true, laidKinds := [.data, .pinned], laidTests := true, laidLooks := .later }
def AttachOneUptoCardSaid : Prop := Claim7.holds Tryz.pinned (.plain (OpenSpec.upto attachOneSpec)) attachOneUptoCard

/-- THE SECOND FORM's CARD OF 'tolllaw13.AttachOthers'. -/
def attachOthersUptoCard : Claim7 := { stood := { row := attachOthersUptoRow, standIns := [], harness := (true, "6ec1423312db6a1a54ef9e3a0d06fb9cf1861275846ffe494de3cc13cf2d184a"), looks := true }, kinds := [], alts := [], laidByText := true, laidKinds := [.data, .pinned], laidTests := true, laidLooks := .later }
def AttachOthersUptoCardSaid : Prop := Claim7.holds Tryz.pinned (.plain (OpenSpec.upto attachOthersSpec)) attachOthersUptoCard

/-- THE SECOND FORM's CARD OF 'tolllaw10.StoreTells'. -/
def storeTellsUptoCard : Claim7 := { stood := { row := storeTellsUptoRow, standIns := [], harness := (true, "6ec1423312db6a1a54ef9e3a0d06fb9cf1861275846ffe494de3cc13cf2d184a"), looks := true }, kinds := [], alts := [], laidByText := true, laidKinds := [.data, .pinned], laidTests := true, laidLooks := .later }
def StoreTellsUptoCardSaid : Prop := Claim7.holds Tryz.pinned (.plain (OpenSpec.upto storeTellsSpec)) storeTellsUptoCard
end Rows
end Go.Proofs.YtmfnlloabaoagaaGreatDoor
