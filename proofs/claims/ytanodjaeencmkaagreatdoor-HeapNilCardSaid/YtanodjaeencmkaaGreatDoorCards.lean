/-
  DERIVED. GIVEN WITH THE SEED: THE CARDS: each row of YtanodjaeencmkaaGreatDoorRows.lean that lists a variable, with what it lists TIED to the program's text (the seventh form; the later family's looks); each row that meets fmt, with fmt's text TOLD by the authors' own Lean function (tested against real Go, not proved from fmt's source: count such statements apart). THE CARD IS WHAT COUNTS. Prove the row's statement (the work); the ties are given (YtanodjaeencmkaaGreatDoorTie.lean); close each card by the builder's one call (the guide's Derived/Test/ToyasCard.lean, 'card_holds'). Laid BY PROGRAM, IN A SANDBOX (cutbox-door.mjs). By AI agents, Wed Nov 11 2026. No macro, syntax, notation, axiom, sorry.
-/
import Derived.Test.YtanodjaeencmkaaGreatDoorRows
import GoSem.ClaimSeven
namespace Go.Proofs.YtanodjaeencmkaaGreatDoor
namespace Rows

/-- THE TIED CARD OF 'garthlaw17.HeapFew'. -/
def heapFewCard : Claim7 := { stood := { row := heapFewRow, standIns := [], harness := (true, "3613960c4d1d101a65b02903b6316334868d9e432e3caea375a63d7012973921"), looks := false }, kinds := [], alts := [], laidByText := true, laidKinds := [.data], laidTests := true, laidLooks := .later }
def HeapFewCardSaid : Prop := Claim7.holds Tryz.pinned (.plain (OpenSpec.ofChange heapFewSpec)) heapFewCard

/-- THE TIED CARD OF 'garthlaw17.HeapOwn'. -/
def heapOwnCard : Claim7 := { stood := { row := heapOwnRow, standIns := [], harness := (true, "3613960c4d1d101a65b02903b6316334868d9e432e3caea375a63d7012973921"), looks := false }, kinds := [], alts := [], laidByText := true, laidKinds := [.data], laidTests := true, laidLooks := .later }
def HeapOwnCardSaid : Prop := Claim7.holds Tryz.pinned (.plain (OpenSpec.ofChange heapOwnSpec)) heapOwnCard

/-- THE TIED CARD OF 'garthlaw17.HeapClean'. -/
def heapCleanCard : Claim7 := { stood := { row := heapCleanRow, standIns := [], harness := (true, "3613960c4d1d101a65b02903b6316334868d9e432e3caea375a63d7012973921"), looks := false }, kinds := [], alts := [], laidByText := true, laidKinds := [.data], laidTests := true, laidLooks := .later }
def HeapCleanCardSaid : Prop := Claim7.holds Tryz.pinned (.plain (OpenSpec.ofChange heapCleanSpec)) heapCleanCard

/-- THE TIED CARD OF 'garthlaw17.HeapNil'. -/
def heapNilCard : Claim7 := { stood := { row := heapNilRow, standIns := [], harness := (true, "3613960c4d1d101a65b02903b6316334868d9e432e3caea375a63d7012973921"), looks := false }, kinds := [], alts := [], laidByText := true, laidKinds := [.data], laidTests := true, laidLooks := .later }
def HeapNilCardSaid : Prop := Claim7.holds Tryz.pinned (.plain (OpenSpec.ofChange heapNilSpec)) heapNilCard

/-- THE TIED CARD OF 'garthlaw17.HeapPlays'. -/
def heapPlaysCard : Claim7 := { stood := { row := heapPlaysRow, standIns := [], harness := (true, "3613960c4d1d101a65b02903b6316334868d9e432e3caea375a63d7012973921"), looks := false }, kinds := [], alts := [], laidByText := true, laidKinds := [.data], laidTests := true, laidLooks := .later }
def HeapPlaysCardSaid : Prop := Claim7.holds Tryz.pinned (.plain (OpenSpec.ofChange heapPlaysSpec)) heapPlaysCard

/-- THE TIED CARD OF 'garthlaw17.HeapApart'. -/
def heapApartCard : Claim7 := { stood := { row := heapApartRow, standIns := [], harness := (true, "3613960c4d1d101a65b02903b6316334868d9e432e3caea375a63d7012973921"), looks := false }, kinds := [], alts := [], laidByText := true, laidKinds := [.data], laidTests := true, laidLooks := .later }
def HeapApartCardSaid : Prop := Claim7.holds Tryz.pinned (.plain (OpenSpec.ofChange heapApartSpec)) heapApartCard

/-- THE SECOND FORM's CARD OF 'garthlaw17.HeapFew'. -/
def heapFewUptoCard : Claim7 := { stood := { row := heapFewUptoRow, standIns := [], harness := (true, "3613960c4d1d101a65b02903b6316334868d9e432e3caea375a63d7012973921"), looks := false }, kinds := [], alts := [], laidByText := true, laidKinds := [.data], laidTests := true, laidLooks := .later }
def HeapFewUptoCardSaid : Prop := Claim7.holds Tryz.pinned (.plain (OpenSpec.upto heapFewSpec)) heapFewUptoCard

/-- THE SECOND FORM's CARD OF 'garthlaw17.HeapOwn'. -/
def heapOwnUptoCard : Claim7 := { stood := { row := heapOwnUptoRow, standIns := [], harness := (true, "3613960c4d1d101a65b02903b6316334868d9e432e3caea375a63d7012973921"), looks := false }, kinds := [], alts := [], laidByText := true, laidKinds := [.data], laidTests := true, laidLooks := .later }
def HeapOwnUptoCardSaid : Prop := Claim7.holds Tryz.pinned (.plain (OpenSpec.upto heapOwnSpec)) heapOwnUptoCard

/-- THE SECOND FORM's CARD OF 'garthlaw17.HeapClean'. -/
def heapCleanUptoCard : Claim7 := { stood := { row := heapCleanUptoRow, standIns := [], harness := (true, "3613960c4d1d101a65b02903b6316334868d9e432e3caea375a63d7012973921"), looks := false }, kinds := [], alts := [], laidByText := true, laidKinds := [.data], laidTests := true, laidLooks := .later }
def HeapCleanUptoCardSaid : Prop := Claim7.holds Tryz.pinned (.plain (OpenSpec.upto heapCleanSpec)) heapCleanUptoCard

/-- THE SECOND FORM's CARD OF 'garthlaw17.HeapNil'. -/
def heapNilUptoCard : Claim7 := { stood := { row := heapNilUptoRow, standIns := [], harness := (true, "3613960c4d1d101a65b02903b6316334868d9e432e3caea375a63d7012973921"), looks := false }, kinds := [], alts := [], laidByText := true, laidKinds := [.data], laidTests := true, laidLooks := .later }
def HeapNilUptoCardSaid : Prop := Claim7.holds Tryz.pinned (.plain (OpenSpec.upto heapNilSpec)) heapNilUptoCard

/-- THE SECOND FORM's CARD OF 'garthlaw17.HeapPlays'. -/
def heapPlaysUptoCard : Claim7 := { stood := { row := heapPlaysUptoRow, standIns := [], harness := (true, "3613960c4d1d101a65b02903b6316334868d9e432e3caea375a63d7012973921"), looks := false }, kinds := [], alts := [], laidByText := true, laidKinds := [.data], laidTests := true, laidLooks := .later }
def HeapPlaysUptoCardSaid : Prop := Claim7.holds Tryz.pinned (.plain (OpenSpec.upto heapPlaysSpec)) heapPlaysUptoCard

/-- THE SECOND FORM's CARD OF 'garthlaw17.HeapApart'. -/
def heapApartUptoCard : Claim7 := { stood := { row := heapApartUptoRow, standIns := [], harness := (true, "3613960c4d1d101a65b02903b6316334868d9e432e3caea375a63d7012973921"), looks := false }, kinds := [], alts := [], laidByText := true, laidKinds := [.data], laidTests := true, laidLooks := .later }
def HeapApartUptoCardSaid : Prop := Claim7.holds Tryz.pinned (.plain (OpenSpec.upto heapApartSpec)) heapApartUptoCard
end Rows
end Go.Proofs.YtanodjaeencmkaaGreatDoor
