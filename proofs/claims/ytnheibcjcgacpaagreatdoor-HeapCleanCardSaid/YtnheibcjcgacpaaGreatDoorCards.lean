/-
  DERIVED. GIVEN WITH THE SEED: THE CARDS: each row of YtnheibcjcgacpaaGreatDoorRows.lean that lists a variable, with what it lists TIED to the program's text (the seventh form; the later family's looks); each row that meets fmt, with fmt's text TOLD by the authors' own Lean function (tested against real Go, not proved from fmt's source: count such statements apart). THE CARD IS WHAT COUNTS. Prove the row's statement (the work); the ties are given (YtnheibcjcgacpaaGreatDoorTie.lean); close each card by the builder's one call (the guide's Derived/Test/ToyasCard.lean, 'card_holds'). Laid BY PROGRAM, IN A SANDBOX (cutbox-door.mjs). By AI agents, Wed Nov 11 2026. No macro, syntax, notation, axiom, sorry.
-/
import Derived.Test.YtnheibcjcgacpaaGreatDoorRows
import GoSem.ClaimSeven
namespace Go.Proofs.YtnheibcjcgacpaaGreatDoor
namespace Rows

/-- THE TIED CARD OF 'garthlaw17.HeapFew'. -/
def heapFewCard : Claim7 := { stood := { row := heapFewRow, standIns := [], harness := (true, "26fc7e1a91799e0b0fe3648034116d1e117b10424fb76b1390aa0fd7718f7f7d"), looks := false }, kinds := [], alts := [], laidByText := true, laidKinds := [.data], laidTests := true, laidLooks := .later }
def HeapFewCardSaid : Prop := Claim7.holds Tryz.pinned (.plain (OpenSpec.ofChange heapFewSpec)) heapFewCard

/-- THE TIED CARD OF 'garthlaw17.HeapOwn'. -/
def heapOwnCard : Claim7 := { stood := { row := heapOwnRow, standIns := [], harness := (true, "26fc7e1a91799e0b0fe3648034116d1e117b10424fb76b1390aa0fd7718f7f7d"), looks := false }, kinds := [], alts := [], laidByText := true, laidKinds := [.data], laidTests := true, laidLooks := .later }
def HeapOwnCardSaid : Prop := Claim7.holds Tryz.pinned (.plain (OpenSpec.ofChange heapOwnSpec)) heapOwnCard

/-- THE TIED CARD OF 'garthlaw17.HeapClean'. -/
def heapCleanCard : Claim7 := { stood := { row := heapCleanRow, standIns := [], harness := (true, "26fc7e1a91799e0b0fe3648034116d1e117b10424fb76b1390aa0fd7718f7f7d"), looks := false }, kinds := [], alts := [], laidByText := true, laidKinds := [.data], laidTests := true, laidLooks := .later }
def HeapCleanCardSaid : Prop := Claim7.holds Tryz.pinned (.plain (OpenSpec.ofChange heapCleanSpec)) heapCleanCard

/-- THE TIED CARD OF 'garthlaw17.HeapPlays'. -/
def heapPlaysCard : Claim7 := { stood := { row := heapPlaysRow, standIns := [], harness := (true, "26fc7e1a91799e0b0fe3648034116d1e117b10424fb76b1390aa0fd7718f7f7d"), looks := false }, kinds := [], alts := [], laidByText := true, laidKinds := [.data], laidTests := true, laidLooks := .later }
def HeapPlaysCardSaid : Prop := Claim7.holds Tryz.pinned (.plain (OpenSpec.ofChange heapPlaysSpec)) heapPlaysCard

/-- THE TIED CARD OF 'garthlaw17.HeapApart'. -/
def heapApartCard : Claim7 := { stood := { row := heapApartRow, standIns := [], harness := (true, "26fc7e1a91799e0b0fe3648034116d1e117b10424fb76b1390aa0fd7718f7f7d"), looks := false }, kinds := [], alts := [], laidByText := true, laidKinds := [.data], laidTests := true, laidLooks := .later }
def HeapApartCardSaid : Prop := Claim7.holds Tryz.pinned (.plain (OpenSpec.ofChange heapApartSpec)) heapApartCard

/-- THE TIED CARD OF 'garthlaw18.TenantNil'. -/
def tenantNilCard : Claim7 := { stood := { row := tenantNilRow, standIns := [], harness := (true, "26fc7e1a91799e0b0fe3648034116d1e117b10424fb76b1390aa0fd7718f7f7d"), looks := false }, kinds := [], alts := [], laidByText := true, laidKinds := [.data], laidTests := true, laidLooks := .later }
def TenantNilCardSaid : Prop := Claim7.holds Tryz.pinned (.plain (OpenSpec.ofChange tenantNilSpec)) tenantNilCard

/-- THE TIED CARD OF 'garthlaw18.TenantQuota'. -/
def tenantQuotaCard : Claim7 := { stood := { row := tenantQuotaRow, standIns := [], harness := (true, "26fc7e1a91799e0b0fe3648034116d1e117b10424fb76b1390aa0fd7718f7f7d"), looks := false }, kinds := [], alts := [], laidByText := true, laidKinds := [.data], laidTests := true, laidLooks := .later }
def TenantQuotaCardSaid : Prop := Claim7.holds Tryz.pinned (.plain (OpenSpec.ofChange tenantQuotaSpec)) tenantQuotaCard

/-- THE TIED CARD OF 'garthlaw18.TenantShares'. -/
def tenantSharesCard : Claim7 := { stood := { row := tenantSharesRow, standIns := [], harness := (true, "26fc7e1a91799e0b0fe3648034116d1e117b10424fb76b1390aa0fd7718f7f7d"), looks := false }, kinds := [], alts := [], laidByText := true, laidKinds := [.data], laidTests := true, laidLooks := .later }
def TenantSharesCardSaid : Prop := Claim7.holds Tryz.pinned (.plain (OpenSpec.ofChange tenantSharesSpec)) tenantSharesCard

/-- THE TIED CARD OF 'garthlaw18.TenantGone'. -/
def tenantGoneCard : Claim7 := { stood := { row := tenantGoneRow, standIns := [], harness := (true, "26fc7e1a91799e0b0fe3648034116d1e117b10424fb76b1390aa0fd7718f7f7d"), looks := false }, kinds := [], alts := [], laidByText := true, laidKinds := [.data], laidTests := true, laidLooks := .later }
def TenantGoneCardSaid : Prop := Claim7.holds Tryz.pinned (.plain (OpenSpec.ofChange tenantGoneSpec)) tenantGoneCard

/-- THE TIED CARD OF 'garthlaw18.TenantBytes'. -/
def tenantBytesCard : Claim7 := { stood := { row := tenantBytesRow, standIns := [], harness := (true, "26fc7e1a91799e0b0fe3648034116d1e117b10424fb76b1390aa0fd7718f7f7d"), looks := false }, kinds := [], alts := [], laidByText := true, laidKinds := [.data], laidTests := true, laidLooks := .later }
def TenantBytesCardSaid : Prop := Claim7.holds Tryz.pinned (.plain (OpenSpec.ofChange tenantBytesSpec)) tenantBytesCard

/-- THE TIED CARD OF 'garthlaw18.TenantPlace'. -/
def tenantPlaceCard : Claim7 := { stood := { row := tenantPlaceRow, standIns := [], harness := (true, "26fc7e1a91799e0b0fe3648034116d1e117b10424fb76b1390aa0fd7718f7f7d"), looks := false }, kinds := [], alts := [], laidByText := true, laidKinds := [.data], laidTests := true, laidLooks := .later }
def TenantPlaceCardSaid : Prop := Claim7.holds Tryz.pinned (.plain (OpenSpec.ofChange tenantPlaceSpec)) tenantPlaceCard

/-- THE TIED CARD OF 'garthlaw18.TenantPlays'. -/
def tenantPlaysCard : Claim7 := { stood := { row := tenantPlaysRow, standIns := [], harness := (true, "26fc7e1a91799e0b0fe3648034116d1e117b10424fb76b1390aa0fd7718f7f7d"), looks := false }, kinds := [], alts := [], laidByText := true, laidKinds := [.data], laidTests := true, laidLooks := .later }
def TenantPlaysCardSaid : Prop := Claim7.holds Tryz.pinned (.plain (OpenSpec.ofChange tenantPlaysSpec)) tenantPlaysCard

/-- THE SECOND FORM's CARD OF 'garthlaw17.HeapFew'. -/
def heapFewUptoCard : Claim7 := { stood := { row := heapFewUptoRow, standIns := [], harness := (true, "26fc7e1a91799e0b0fe3648034116d1e117b10424fb76b1390aa0fd7718f7f7d"), looks := false }, kinds := [], alts := [], laidByText := true, laidKinds := [.data], laidTests := true, laidLooks := .later }
def HeapFewUptoCardSaid : Prop := Claim7.holds Tryz.pinned (.plain (OpenSpec.upto heapFewSpec)) heapFewUptoCard

/-- THE SECOND FORM's CARD OF 'garthlaw17.HeapOwn'. -/
def heapOwnUptoCard : Claim7 := { stood := { row := heapOwnUptoRow, standIns := [], harness := (true, "26fc7e1a91799e0b0fe3648034116d1e117b10424fb76b1390aa0fd7718f7f7d"), looks := false }, kinds := [], alts := [], laidByText := true, laidKinds := [.data], laidTests := true, laidLooks := .later }
def HeapOwnUptoCardSaid : Prop := Claim7.holds Tryz.pinned (.plain (OpenSpec.upto heapOwnSpec)) heapOwnUptoCard

/-- THE SECOND FORM's CARD OF 'garthlaw17.HeapClean'. -/
def heapCleanUptoCard : Claim7 := { stood := { row := heapCleanUptoRow, standIns := [], harness := (true, "26fc7e1a91799e0b0fe3648034116d1e117b10424fb76b1390aa0fd7718f7f7d"), looks := false }, kinds := [], alts := [], laidByText := true, laidKinds := [.data], laidTests := true, laidLooks := .later }
def HeapCleanUptoCardSaid : Prop := Claim7.holds Tryz.pinned (.plain (OpenSpec.upto heapCleanSpec)) heapCleanUptoCard

/-- THE SECOND FORM's CARD OF 'garthlaw17.HeapPlays'. -/
def heapPlaysUptoCard : Claim7 := { stood := { row := heapPlaysUptoRow, standIns := [], harness := (true, "26fc7e1a91799e0b0fe3648034116d1e117b10424fb76b1390aa0fd7718f7f7d"), looks := false }, kinds := [], alts := [], laidByText := true, laidKinds := [.data], laidTests := true, laidLooks := .later }
def HeapPlaysUptoCardSaid : Prop := Claim7.holds Tryz.pinned (.plain (OpenSpec.upto heapPlaysSpec)) heapPlaysUptoCard

/-- THE SECOND FORM's CARD OF 'garthlaw17.HeapApart'. -/
def heapApartUptoCard : Claim7 := { stood := { row := heapApartUptoRow, standIns := [], harness := (true, "26fc7e1a91799e0b0fe3648034116d1e117b10424fb76b1390aa0fd7718f7f7d"), looks := false }, kinds := [], alts := [], laidByText := true, laidKinds := [.data], laidTests := true, laidLooks := .later }
def HeapApartUptoCardSaid : Prop := Claim7.holds Tryz.pinned (.plain (OpenSpec.upto heapApartSpec)) heapApartUptoCard

/-- THE SECOND FORM's CARD OF 'garthlaw18.TenantNil'. -/
def tenantNilUptoCard : Claim7 := { stood := { row := tenantNilUptoRow, standIns := [], harness := (true, "26fc7e1a91799e0b0fe3648034116d1e117b10424fb76b1390aa0fd7718f7f7d"), looks := false }, kinds := [], alts := [], laidByText := true, laidKinds := [.data], laidTests := true, laidLooks := .later }
def TenantNilUptoCardSaid : Prop := Claim7.holds Tryz.pinned (.plain (OpenSpec.upto tenantNilSpec)) tenantNilUptoCard

/-- THE SECOND FORM's CARD OF 'garthlaw18.TenantQuota'. -/
def tenantQuotaUptoCard : Claim7 := { stood := { row := tenantQuotaUptoRow, standIns := [], harness := (true, "26fc7e1a91799e0b0fe3648034116d1e117b10424fb76b1390aa0fd7718f7f7d"), looks := false }, kinds := [], alts := [], laidByText := true, laidKinds := [.data], laidTests := true, laidLooks := .later }
def TenantQuotaUptoCardSaid : Prop := Claim7.holds Tryz.pinned (.plain (OpenSpec.upto tenantQuotaSpec)) tenantQuotaUptoCard

/-- THE SECOND FORM's CARD OF 'garthlaw18.TenantShares'. -/
def tenantSharesUptoCard : Claim7 := { stood := { row := tenantSharesUptoRow, standIns := [], harness := (true, "26fc7e1a91799e0b0fe3648034116d1e117b10424fb76b1390aa0fd7718f7f7d"), looks := false }, kinds := [], alts := [], laidByText := true, laidKinds := [.data], laidTests := true, laidLooks := .later }
def TenantSharesUptoCardSaid : Prop := Claim7.holds Tryz.pinned (.plain (OpenSpec.upto tenantSharesSpec)) tenantSharesUptoCard

/-- THE SECOND FORM's CARD OF 'garthlaw18.TenantGone'. -/
def tenantGoneUptoCard : Claim7 := { stood := { row := tenantGoneUptoRow, standIns := [], harness := (true, "26fc7e1a91799e0b0fe3648034116d1e117b10424fb76b1390aa0fd7718f7f7d"), looks := false }, kinds := [], alts := [], laidByText := true, laidKinds := [.data], laidTests := true, laidLooks := .later }
def TenantGoneUptoCardSaid : Prop := Claim7.holds Tryz.pinned (.plain (OpenSpec.upto tenantGoneSpec)) tenantGoneUptoCard

/-- THE SECOND FORM's CARD OF 'garthlaw18.TenantBytes'. -/
def tenantBytesUptoCard : Claim7 := { stood := { row := tenantBytesUptoRow, standIns := [], harness := (true, "26fc7e1a91799e0b0fe3648034116d1e117b10424fb76b1390aa0fd7718f7f7d"), looks := false }, kinds := [], alts := [], laidByText := true, laidKinds := [.data], laidTests := true, laidLooks := .later }
def TenantBytesUptoCardSaid : Prop := Claim7.holds Tryz.pinned (.plain (OpenSpec.upto tenantBytesSpec)) tenantBytesUptoCard

/-- THE SECOND FORM's CARD OF 'garthlaw18.TenantPlace'. -/
def tenantPlaceUptoCard : Claim7 := { stood := { row := tenantPlaceUptoRow, standIns := [], harness := (true, "26fc7e1a91799e0b0fe3648034116d1e117b10424fb76b1390aa0fd7718f7f7d"), looks := false }, kinds := [], alts := [], laidByText := true, laidKinds := [.data], laidTests := true, laidLooks := .later }
def TenantPlaceUptoCardSaid : Prop := Claim7.holds Tryz.pinned (.plain (OpenSpec.upto tenantPlaceSpec)) tenantPlaceUptoCard

/-- THE SECOND FORM's CARD OF 'garthlaw18.TenantPlays'. -/
def tenantPlaysUptoCard : Claim7 := { stood := { row := tenantPlaysUptoRow, standIns := [], harness := (true, "26fc7e1a91799e0b0fe3648034116d1e117b10424fb76b1390aa0fd7718f7f7d"), looks := false }, kinds := [], alts := [], laidByText := true, laidKinds := [.data], laidTests := true, laidLooks := .later }
def TenantPlaysUptoCardSaid : Prop := Claim7.holds Tryz.pinned (.plain (OpenSpec.upto tenantPlaysSpec)) tenantPlaysUptoCard
end Rows
end Go.Proofs.YtnheibcjcgacpaaGreatDoor
