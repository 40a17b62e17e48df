/-
  DERIVED. GIVEN WITH THE SEED: THE CARDS: each row of YtcjdejhjbelggaaDoorRows.lean that lists a variable, with what it lists TIED to the program's text (the seventh form; the later family's looks); each row that meets fmt, with fmt's text TOLD by the authors' own Lean function (tested against real Go, not proved from fmt's source: count such statements apart). THE CARD IS WHAT COUNTS. Prove the row's statement (the work); the ties are given (YtcjdejhjbelggaaDoorTie.lean); close each card by the builder's one call (the guide's Derived/Test/ToyasCard.lean, 'card_holds'). Laid BY PROGRAM, IN A SANDBOX (cutbox-door.mjs). By AI agents, Wed Nov 11 2026. No macro, syntax, notation, axiom, sorry.
-/
import Derived.Test.YtcjdejhjbelggaaDoorRows
import GoSem.ClaimSeven
namespace Go.Proofs.YtcjdejhjbelggaaDoor
namespace Rows

/-- THE TIED CARD OF 'garthlaw08.PoolLow'. -/
def poolLowCard : Claim7 := { stood := { row := poolLowRow, standIns := [], harness := (true, "b09985774f4db063778bd9005621fef02c5a652b6e8d4bcc14372af93bff5dc4"), looks := true }, kinds := [], alts := [], laidByText := true, laidKinds := [.data], laidTests := true, laidLooks := .later }
def PoolLowCardSaid : Prop := Claim7.holds Tryd.pinned (.plain (OpenSpec.ofChange poolLowSpec)) poolLowCard

/-- THE TIED CARD OF 'garthlaw08.PoolApart'. -/
def poolApartCard : Claim7 := { stood := { row := poolApartRow, standIns := [], harness := (true, "b09985774f4db063778bd9005621fef02c5a652b6e8d4bcc14372af93bff5dc4"), looks := true }, kinds := [], alts := [], laidByText := true, laidKinds := [.data], laidTests := true, laidLooks := .later }
def PoolApartCardSaid : Prop := Claim7.holds Tryd.pinned (.plain (OpenSpec.ofChange poolApartSpec)) poolApartCard

/-- THE TIED CARD OF 'garthlaw08.PoolPlays'. -/
def poolPlaysCard : Claim7 := { stood := { row := poolPlaysRow, standIns := [], harness := (true, "b09985774f4db063778bd9005621fef02c5a652b6e8d4bcc14372af93bff5dc4"), looks := true }, kinds := [], alts := [], laidByText := true, laidKinds := [.data], laidTests := true, laidLooks := .later }
def PoolPlaysCardSaid : Prop := Claim7.holds Tryd.pinned (.plain (OpenSpec.ofChange poolPlaysSpec)) poolPlaysCard

/-- THE TIED CARD OF 'garthlaw23.ModelApart'. -/
def modelApartCard : Claim7 := { stood := { row := modelApartRow, standIns := [], harness := (true, "b09985774f4db063778bd9005621fef02c5a652b6e8d4bcc14372af93bff5dc4"), looks := true }, kinds := [], alts := [], laidByText := true, laidKinds := [.data], laidTests := true, laidLooks := .later }
def ModelApartCardSaid : Prop := Claim7.holds Tryd.pinned (.plain (OpenSpec.ofChange modelApartSpec)) modelApartCard

/-- THE TIED CARD OF 'garthlaw23.ModelNil'. -/
def modelNilCard : Claim7 := { stood := { row := modelNilRow, standIns := [], harness := (true, "b09985774f4db063778bd9005621fef02c5a652b6e8d4bcc14372af93bff5dc4"), looks := true }, kinds := [], alts := [], laidByText := true, laidKinds := [.data], laidTests := true, laidLooks := .later }
def ModelNilCardSaid : Prop := Claim7.holds Tryd.pinned (.plain (OpenSpec.ofChange modelNilSpec)) modelNilCard

/-- THE TIED CARD OF 'garthlaw23.ModelCopy'. -/
def modelCopyCard : Claim7 := { stood := { row := modelCopyRow, standIns := [], harness := (true, "b09985774f4db063778bd9005621fef02c5a652b6e8d4bcc14372af93bff5dc4"), looks := true }, kinds := [], alts := [], laidByText := true, laidKinds := [.data], laidTests := true, laidLooks := .later }
def ModelCopyCardSaid : Prop := Claim7.holds Tryd.pinned (.plain (OpenSpec.ofChange modelCopySpec)) modelCopyCard

/-- THE SECOND FORM's CARD OF 'garthlaw08.PoolLow'. -/
def poolLowUptoCard : Claim7 := { stood := { row := poolLowUptoRow, standIns := [], harness := (true, "b09985774f4db063778bd9005621fef02c5a652b6e8d4bcc14372af93bff5dc4"), looks := true }, kinds := [], alts := [], laidByText := true, laidKinds := [.data], laidTests := true, laidLooks := .later }
def PoolLowUptoCardSaid : Prop := Claim7.holds Tryd.pinned (.plain (OpenSpec.upto poolLowSpec)) poolLowUptoCard

/-- THE SECOND FORM's CARD OF 'garthlaw08.PoolApart'. -/
def poolApartUptoCard : Claim7 := { stood := { row := poolApartUptoRow, standIns := [], harness := (true, "b09985774f4db063778bd9005621fef02c5a652b6e8d4bcc14372af93bff5dc4"), looks := true }, kinds := [], alts := [], laidByText := true, laidKinds := [.data], laidTests := true, laidLooks := .later }
def PoolApartUptoCardSaid : Prop := Claim7.holds Tryd.pinned (.plain (OpenSpec.upto poolApartSpec)) poolApartUptoCard

/-- THE SECOND FORM's CARD OF 'garthlaw08.PoolPlays'. -/
def poolPlaysUptoCard : Claim7 := { stood := { row := poolPlaysUptoRow, standIns := [], harness := (true, "b09985774f4db063778bd9005621fef02c5a652b6e8d4bcc14372af93bff5dc4"), looks := true }, kinds := [], alts := [], laidByText := true, laidKinds := [.data], laidTests := true, laidLooks := .later }
def PoolPlaysUptoCardSaid : Prop := Claim7.holds Tryd.pinned (.plain (OpenSpec.upto poolPlaysSpec)) poolPlaysUptoCard

/-- THE SECOND FORM's CARD OF 'garthlaw23.ModelApart'. -/
def modelApartUptoCard : Claim7 := { stood := { row := modelApartUptoRow, standIns := [], harness := (true, "b09985774f4db063778bd9005621fef02c5a652b6e8d4bcc14372af93bff5dc4"), looks := true }, kinds := [], alts := [], laidByText := true, laidKinds := [.data], laidTests := true, laidLooks := .later }
def ModelApartUptoCardSaid : Prop := Claim7.holds Tryd.pinned (.plain (OpenSpec.upto modelApartSpec)) modelApartUptoCard

/-- THE SECOND FORM's CARD OF 'garthlaw23.ModelNil'. -/
def modelNilUptoCard : Claim7 := { stood := { row := modelNilUptoRow, standIns := [], harness := (true, "b09985774f4db063778bd9005621fef02c5a652b6e8d4bcc14372af93bff5dc4"), looks := true }, kinds := [], alts := [], laidByText := true, laidKinds := [.data], laidTests := true, laidLooks := .later }
def ModelNilUptoCardSaid : Prop := Claim7.holds Tryd.pinned (.plain (OpenSpec.upto modelNilSpec)) modelNilUptoCard

/-- THE SECOND FORM's CARD OF 'garthlaw23.ModelCopy'. -/
def modelCopyUptoCard : Claim7 := { stood := { row := modelCopyUptoRow, standIns := [], harness := (true, "b09985774f4db063778bd9005621fef02c5a652b6e8d4bcc14372af93bff5dc4"), looks := true }, kinds := [], alts := [], laidByText := true, laidKinds := [.data], laidTests := true, laidLooks := .later }
def ModelCopyUptoCardSaid : Prop := Claim7.holds Tryd.pinned (.plain (OpenSpec.upto modelCopySpec)) modelCopyUptoCard
end Rows
end Go.Proofs.YtcjdejhjbelggaaDoor
