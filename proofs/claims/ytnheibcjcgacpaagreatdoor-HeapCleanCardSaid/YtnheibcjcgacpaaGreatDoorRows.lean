/-
  NARROWER THAN 'FOR EVERY INPUT', by the rows' own cells (each row's printed sentence says how): HeapFew: laid · HeapOwn: laid · HeapClean: laid · HeapPlays: laid · HeapApart: laid · TenantNil: laid · TenantQuota: laid · TenantShares: laid · TenantGone: laid · TenantBytes: laid · TenantPlace: laid · TenantPlays: laid.
  DERIVED. THE GIVEN ROWS OF THIS SEAT. 12 by the template 'for every input the law returns true; each argument reads behind the call as it read before'; 0 by the template 'total and deterministic' (their statements: YtnheibcjcgacpaaGreatDoorTotals.lean).
  GIVEN WITH THE SEED: the statements are not yours to turn. If you find one false, say at which input.
  Laid BY PROGRAM, IN A SANDBOX (cutbox-rows.mjs): the forced cells as the released guide's own fill.sh prints them over the translation 0e4ac01ae8cf5231… (all of the seat's roots in one cut). By AI agents, Wed Nov 11 2026. No macro, syntax, notation, axiom, sorry.
-/
import Derived.Test.YtnheibcjcgacpaaGreatDoorChecked
import GoSem.Claim
import GoSem.ClaimJoined
import GoSem.ClaimMapViews
import Derived.JoinedTies
import Derived.KernelRfl
namespace Go.Proofs.YtnheibcjcgacpaaGreatDoor
/- THE CELL 'sum', in the pinned program and in every row, IS THE sha256 OF THE DUMP (.gsa) THAT YtnheibcjcgacpaaGreatDoorProg.lean LOADS. Nothing in Lean hashes anything: it is a label: what it is worth is what the hold of that sum in a sandbox is worth. -/
noncomputable def Tryz.pinned : Pinned := { name := "ytnheibcjcgacpaagreatdoor", sum := "0e4ac01ae8cf5231923a84fb6410638330ab6ede9480a841a612fd88002abca6", checked := Tryz.checked }
namespace Rows
def none {H : Type} : Left H := { results := [], args := [] }

/- WHAT THE LISTED PACKAGE-LEVEL VARIABLES READ AS WHEN THE CALL BEGINS. Each datum BY PROGRAM (the guide's laid-datum.mjs) off the statement by which the dump's own 'gosem.cut.vars' lays the variable. In a bare row this is a premise. The card (YtnheibcjcgacpaaGreatDoorCards.lean) ties it to the program's text. -/
def laid_math_bits_deBruijn64tab {H : Type} : DataW H := .agg [.lit (.int .u8 0), .lit (.int .u8 1), .lit (.int .u8 56), .lit (.int .u8 2), .lit (.int .u8 57), .lit (.int .u8 49), .lit (.int .u8 28), .lit (.int .u8 3), .lit (.int .u8 61), .lit (.int .u8 58), .lit (.int .u8 42), .lit (.int .u8 50), .lit (.int .u8 38), .lit (.int .u8 29), .lit (.int .u8 17), .lit (.int .u8 4), .lit (.int .u8 62), .lit (.int .u8 47), .lit (.int .u8 59), .lit (.int .u8 36), .lit (.int .u8 45), .lit (.int .u8 43), .lit (.int .u8 51), .lit (.int .u8 22), .lit (.int .u8 53), .lit (.int .u8 39), .lit (.int .u8 33), .lit (.int .u8 30), .lit (.int .u8 24), .lit (.int .u8 18), .lit (.int .u8 12), .lit (.int .u8 5), .lit (.int .u8 63), .lit (.int .u8 55), .lit (.int .u8 48), .lit (.int .u8 27), .lit (.int .u8 60), .lit (.int .u8 41), .lit (.int .u8 37), .lit (.int .u8 16), .lit (.int .u8 46), .lit (.int .u8 35), .lit (.int .u8 44), .lit (.int .u8 21), .lit (.int .u8 52), .lit (.int .u8 32), .lit (.int .u8 23), .lit (.int .u8 11), .lit (.int .u8 54), .lit (.int .u8 26), .lit (.int .u8 40), .lit (.int .u8 15), .lit (.int .u8 34), .lit (.int .u8 20), .lit (.int .u8 31), .lit (.int .u8 10), .lit (.int .u8 25), .lit (.int .u8 14), .lit (.int .u8 19), .lit (.int .u8 9), .lit (.int .u8 13), .lit (.int .u8 8), .lit (.int .u8 7), .lit (.int .u8 6)]

/-- 'garthlaw17.HeapFew': WHATEVER THE INPUT: true; the input reads as it did. -/
def heapFewSpec : ChangeSpec := { name := "heapFew", fn := fun _ => fun
  | [d1, d2, d3] => { results := [.lit (.bool true)], args := [d1, d2, d3] }
  | _ => none }
def heapFewRow : OpenClaim := { program := "ytnheibcjcgacpaagreatdoor", sum := "0e4ac01ae8cf5231923a84fb6410638330ab6ede9480a841a612fd88002abca6", func := "garth/garthlaw17.HeapFew", spec := "heapFew", named := ["math/bits.deBruijn64tab"], apart := false, laid := [("math/bits.deBruijn64tab", laid_math_bits_deBruijn64tab)] }
def HeapFewSaid : Prop := heapFewRow.holds Tryz.pinned (OpenSpec.ofChange heapFewSpec)

/-- ITS FALSE NEIGHBOUR: 'it returns false'. Refute it at one input. -/
def heapFewWrong : ChangeSpec := { name := "heapFew", fn := fun _ => fun
  | [d1, d2, d3] => { results := [.lit (.bool false)], args := [d1, d2, d3] }
  | _ => none }
def HeapFewWrongFalsely : Prop := heapFewRow.holds Tryz.pinned (OpenSpec.ofChange heapFewWrong)

/-- 'garthlaw17.HeapOwn': WHATEVER THE INPUT: true; the input reads as it did. -/
def heapOwnSpec : ChangeSpec := { name := "heapOwn", fn := fun _ => fun
  | [d1, d2] => { results := [.lit (.bool true)], args := [d1, d2] }
  | _ => none }
def heapOwnRow : OpenClaim := { program := "ytnheibcjcgacpaagreatdoor", sum := "0e4ac01ae8cf5231923a84fb6410638330ab6ede9480a841a612fd88002abca6", func := "garth/garthlaw17.HeapOwn", spec := "heapOwn", unfollowed := true, recurses := true, named := ["math/bits.deBruijn64tab"], apart := false, laid := [("math/bits.deBruijn64tab", laid_math_bits_deBruijn64tab)] }
def HeapOwnSaid : Prop := heapOwnRow.holds Tryz.pinned (OpenSpec.ofChange heapOwnSpec)

/-- ITS FALSE NEIGHBOUR: 'it returns false'. Refute it at one input. -/
def heapOwnWrong : ChangeSpec := { name := "heapOwn", fn := fun _ => fun
  | [d1, d2] => { results := [.lit (.bool false)], args := [d1, d2] }
  | _ => none }
def HeapOwnWrongFalsely : Prop := heapOwnRow.holds Tryz.pinned (OpenSpec.ofChange heapOwnWrong)

/-- 'garthlaw17.HeapClean': WHATEVER THE INPUT: true; the input reads as it did. -/
def heapCleanSpec : ChangeSpec := { name := "heapClean", fn := fun _ => fun
  | [d1, d2, d3] => { results := [.lit (.bool true)], args := [d1, d2, d3] }
  | _ => none }
def heapCleanRow : OpenClaim := { program := "ytnheibcjcgacpaagreatdoor", sum := "0e4ac01ae8cf5231923a84fb6410638330ab6ede9480a841a612fd88002abca6", func := "garth/garthlaw17.HeapClean", spec := "heapClean", unfollowed := true, recurses := true, named := ["math/bits.deBruijn64tab"], apart := false, laid := [("math/bits.deBruijn64tab", laid_math_bits_deBruijn64tab)] }
def HeapCleanSaid : Prop := heapCleanRow.holds Tryz.pinned (OpenSpec.ofChange heapCleanSpec)

/-- ITS FALSE NEIGHBOUR: 'it returns false'. Refute it at one input. -/
def heapCleanWrong : ChangeSpec := { name := "heapClean", fn := fun _ => fun
  | [d1, d2, d3] => { results := [.lit (.bool false)], args := [d1, d2, d3] }
  | _ => none }
def HeapCleanWrongFalsely : Prop := heapCleanRow.holds Tryz.pinned (OpenSpec.ofChange heapCleanWrong)

/-- 'garthlaw17.HeapPlays': WHATEVER THE INPUT: true; the input reads as it did. -/
def heapPlaysSpec : ChangeSpec := { name := "heapPlays", fn := fun _ => fun
  | [d1, d2] => { results := [.lit (.bool true)], args := [d1, d2] }
  | _ => none }
def heapPlaysRow : OpenClaim := { program := "ytnheibcjcgacpaagreatdoor", sum := "0e4ac01ae8cf5231923a84fb6410638330ab6ede9480a841a612fd88002abca6", func := "garth/garthlaw17.HeapPlays", spec := "heapPlays", unfollowed := true, recurses := true, named := ["math/bits.deBruijn64tab"], apart := false, laid := [("math/bits.deBruijn64tab", laid_math_bits_deBruijn64tab)] }
def HeapPlaysSaid : Prop := heapPlaysRow.holds Tryz.pinned (OpenSpec.ofChange heapPlaysSpec)

/-- ITS FALSE NEIGHBOUR: 'it returns false'. Refute it at one input. -/
def heapPlaysWrong : ChangeSpec := { name := "heapPlays", fn := fun _ => fun
  | [d1, d2] => { results := [.lit (.bool false)], args := [d1, d2] }
  | _ => none }
def HeapPlaysWrongFalsely : Prop := heapPlaysRow.holds Tryz.pinned (OpenSpec.ofChange heapPlaysWrong)

/-- 'garthlaw17.HeapApart': WHATEVER THE INPUT: true; the input reads as it did. -/
def heapApartSpec : ChangeSpec := { name := "heapApart", fn := fun _ => fun
  | [d1, d2] => { results := [.lit (.bool true)], args := [d1, d2] }
  | _ => none }
def heapApartRow : OpenClaim := { program := "ytnheibcjcgacpaagreatdoor", sum := "0e4ac01ae8cf5231923a84fb6410638330ab6ede9480a841a612fd88002abca6", func := "garth/garthlaw17.HeapApart", spec := "heapApart", inPlace := ["internal/abi.NoEscape"], unfollowed := true, recurses := true, named := ["math/bits.deBruijn64tab"], apart := false, laid := [("math/bits.deBruijn64tab", laid_math_bits_deBruijn64tab)] }
def HeapApartSaid : Prop := heapApartRow.holds Tryz.pinned (OpenSpec.ofChange heapApartSpec)

/-- ITS FALSE NEIGHBOUR: 'it returns false'. Refute it at one input. -/
def heapApartWrong : ChangeSpec := { name := "heapApart", fn := fun _ => fun
  | [d1, d2] => { results := [.lit (.bool false)], args := [d1, d2] }
  | _ => none }
def HeapApartWrongFalsely : Prop := heapApartRow.holds Tryz.pinned (OpenSpec.ofChange heapApartWrong)

/-- 'garthlaw18.TenantNil': WHATEVER THE INPUT: true; the input reads as it did. -/
def tenantNilSpec : ChangeSpec := { name := "tenantNil", fn := fun _ => fun
  | [d1, d2, d3] => { results := [.lit (.bool true)], args := [d1, d2, d3] }
  | _ => none }
def tenantNilRow : OpenClaim := { program := "ytnheibcjcgacpaagreatdoor", sum := "0e4ac01ae8cf5231923a84fb6410638330ab6ede9480a841a612fd88002abca6", func := "garth/garthlaw18.TenantNil", spec := "tenantNil", inPlace := ["internal/abi.NoEscape"], unfollowed := true, recurses := true, named := ["math/bits.deBruijn64tab"], apart := false, laid := [("math/bits.deBruijn64tab", laid_math_bits_deBruijn64tab)] }
def TenantNilSaid : Prop := tenantNilRow.holds Tryz.pinned (OpenSpec.ofChange tenantNilSpec)

/-- ITS FALSE NEIGHBOUR: 'it returns false'. Refute it at one input. -/
def tenantNilWrong : ChangeSpec := { name := "tenantNil", fn := fun _ => fun
  | [d1, d2, d3] => { results := [.lit (.bool false)], args := [d1, d2, d3] }
  | _ => none }
def TenantNilWrongFalsely : Prop := tenantNilRow.holds Tryz.pinned (OpenSpec.ofChange tenantNilWrong)

/-- 'garthlaw18.TenantQuota': WHATEVER THE INPUT: true; the input reads as it did. -/
def tenantQuotaSpec : ChangeSpec := { name := "tenantQuota", fn := fun _ => fun
  | [d1, d2] => { results := [.lit (.bool true)], args := [d1, d2] }
  | _ => none }
def tenantQuotaRow : OpenClaim := { program := "ytnheibcjcgacpaagreatdoor", sum := "0e4ac01ae8cf5231923a84fb6410638330ab6ede9480a841a612fd88002abca6", func := "garth/garthlaw18.TenantQuota", spec := "tenantQuota", inPlace := ["internal/abi.NoEscape"], unfollowed := true, recurses := true, named := ["math/bits.deBruijn64tab"], apart := false, laid := [("math/bits.deBruijn64tab", laid_math_bits_deBruijn64tab)] }
def TenantQuotaSaid : Prop := tenantQuotaRow.holds Tryz.pinned (OpenSpec.ofChange tenantQuotaSpec)

/-- ITS FALSE NEIGHBOUR: 'it returns false'. Refute it at one input. -/
def tenantQuotaWrong : ChangeSpec := { name := "tenantQuota", fn := fun _ => fun
  | [d1, d2] => { results := [.lit (.bool false)], args := [d1, d2] }
  | _ => none }
def TenantQuotaWrongFalsely : Prop := tenantQuotaRow.holds Tryz.pinned (OpenSpec.ofChange tenantQuotaWrong)

/-- 'garthlaw18.TenantShares': WHATEVER THE INPUT: true; the input reads as it did. -/
def tenantSharesSpec : ChangeSpec := { name := "tenantShares", fn := fun _ => fun
  | [d1, d2, d3, d4] => { results := [.lit (.bool true)], args := [d1, d2, d3, d4] }
  | _ => none }
def tenantSharesRow : OpenClaim := { program := "ytnheibcjcgacpaagreatdoor", sum := "0e4ac01ae8cf5231923a84fb6410638330ab6ede9480a841a612fd88002abca6", func := "garth/garthlaw18.TenantShares", spec := "tenantShares", inPlace := ["internal/abi.NoEscape"], unfollowed := true, recurses := true, named := ["math/bits.deBruijn64tab"], apart := false, laid := [("math/bits.deBruijn64tab", laid_math_bits_deBruijn64tab)] }
def TenantSharesSaid : Prop := tenantSharesRow.holds Tryz.pinned (OpenSpec.ofChange tenantSharesSpec)

/-- ITS FALSE NEIGHBOUR: 'it returns false'. Refute it at one input. -/
def tenantSharesWrong : ChangeSpec := { name := "tenantShares", fn := fun _ => fun
  | [d1, d2, d3, d4] => { results := [.lit (.bool false)], args := [d1, d2, d3, d4] }
  | _ => none }
def TenantSharesWrongFalsely : Prop := tenantSharesRow.holds Tryz.pinned (OpenSpec.ofChange tenantSharesWrong)

/-- 'garthlaw18.TenantGone': WHATEVER THE INPUT: true; the input reads as it did. -/
def tenantGoneSpec : ChangeSpec := { name := "tenantGone", fn := fun _ => fun
  | [d1, d2, d3] => { results := [.lit (.bool true)], args := [d1, d2, d3] }
  | _ => none }
def tenantGoneRow : OpenClaim := { program := "ytnheibcjcgacpaagreatdoor", sum := "0e4ac01ae8cf5231923a84fb6410638330ab6ede9480a841a612fd88002abca6", func := "garth/garthlaw18.TenantGone", spec := "tenantGone", inPlace := ["internal/abi.NoEscape"], unfollowed := true, recurses := true, named := ["math/bits.deBruijn64tab"], apart := false, laid := [("math/bits.deBruijn64tab", laid_math_bits_deBruijn64tab)] }
def TenantGoneSaid : Prop := tenantGoneRow.holds Tryz.pinned (OpenSpec.ofChange tenantGoneSpec)

/-- ITS FALSE NEIGHBOUR: 'it returns false'. Refute it at one input. -/
def tenantGoneWrong : ChangeSpec := { name := "tenantGone", fn := fun _ => fun
  | [d1, d2, d3] => { results := [.lit (.bool false)], args := [d1, d2, d3] }
  | _ => none }
def TenantGoneWrongFalsely : Prop := tenantGoneRow.holds Tryz.pinned (OpenSpec.ofChange tenantGoneWrong)

/-- 'garthlaw18.TenantBytes': WHATEVER THE INPUT: true; the input reads as it did. -/
def tenantBytesSpec : ChangeSpec := { name := "tenantBytes", fn := fun _ => fun
  | [d1, d2] => { results := [.lit (.bool true)], args := [d1, d2] }
  | _ => none }
def tenantBytesRow : OpenClaim := { program := "ytnheibcjcgacpaagreatdoor", sum := "0e4ac01ae8cf5231923a84fb6410638330ab6ede9480a841a612fd88002abca6", func := "garth/garthlaw18.TenantBytes", spec := "tenantBytes", inPlace := ["internal/abi.NoEscape"], unfollowed := true, recurses := true, named := ["math/bits.deBruijn64tab"], apart := false, laid := [("math/bits.deBruijn64tab", laid_math_bits_deBruijn64tab)] }
def TenantBytesSaid : Prop := tenantBytesRow.holds Tryz.pinned (OpenSpec.ofChange tenantBytesSpec)

/-- ITS FALSE NEIGHBOUR: 'it returns false'. Refute it at one input. -/
def tenantBytesWrong : ChangeSpec := { name := "tenantBytes", fn := fun _ => fun
  | [d1, d2] => { results := [.lit (.bool false)], args := [d1, d2] }
  | _ => none }
def TenantBytesWrongFalsely : Prop := tenantBytesRow.holds Tryz.pinned (OpenSpec.ofChange tenantBytesWrong)

/-- 'garthlaw18.TenantPlace': WHATEVER THE INPUT: true; the input reads as it did. -/
def tenantPlaceSpec : ChangeSpec := { name := "tenantPlace", fn := fun _ => fun
  | [d1, d2] => { results := [.lit (.bool true)], args := [d1, d2] }
  | _ => none }
def tenantPlaceRow : OpenClaim := { program := "ytnheibcjcgacpaagreatdoor", sum := "0e4ac01ae8cf5231923a84fb6410638330ab6ede9480a841a612fd88002abca6", func := "garth/garthlaw18.TenantPlace", spec := "tenantPlace", inPlace := ["internal/abi.NoEscape"], unfollowed := true, recurses := true, named := ["math/bits.deBruijn64tab"], apart := false, laid := [("math/bits.deBruijn64tab", laid_math_bits_deBruijn64tab)] }
def TenantPlaceSaid : Prop := tenantPlaceRow.holds Tryz.pinned (OpenSpec.ofChange tenantPlaceSpec)

/-- ITS FALSE NEIGHBOUR: 'it returns false'. Refute it at one input. -/
def tenantPlaceWrong : ChangeSpec := { name := "tenantPlace", fn := fun _ => fun
  | [d1, d2] => { results := [.lit (.bool false)], args := [d1, d2] }
  | _ => none }
def TenantPlaceWrongFalsely : Prop := tenantPlaceRow.holds Tryz.pinned (OpenSpec.ofChange tenantPlaceWrong)

/-- 'garthlaw18.TenantPlays': WHATEVER THE INPUT: true; the input reads as it did. -/
def tenantPlaysSpec : ChangeSpec := { name := "tenantPlays", fn := fun _ => fun
  | [d1, d2] => { results := [.lit (.bool true)], args := [d1, d2] }
  | _ => none }
def tenantPlaysRow : OpenClaim := { program := "ytnheibcjcgacpaagreatdoor", sum := "0e4ac01ae8cf5231923a84fb6410638330ab6ede9480a841a612fd88002abca6", func := "garth/garthlaw18.TenantPlays", spec := "tenantPlays", inPlace := ["internal/abi.NoEscape"], unfollowed := true, recurses := true, named := ["math/bits.deBruijn64tab"], apart := false, laid := [("math/bits.deBruijn64tab", laid_math_bits_deBruijn64tab)] }
def TenantPlaysSaid : Prop := tenantPlaysRow.holds Tryz.pinned (OpenSpec.ofChange tenantPlaysSpec)

/-- ITS FALSE NEIGHBOUR: 'it returns false'. Refute it at one input. -/
def tenantPlaysWrong : ChangeSpec := { name := "tenantPlays", fn := fun _ => fun
  | [d1, d2] => { results := [.lit (.bool false)], args := [d1, d2] }
  | _ => none }
def TenantPlaysWrongFalsely : Prop := tenantPlaysRow.holds Tryz.pinned (OpenSpec.ofChange tenantPlaysWrong)

/- THE SECOND FORM. 'bulk': how many values and letters a reading holds, each counted each time it is reached (what is shared counts as often as it is met; a slice's spare places count too). A statement '..UptoSaid' is the law's where the arguments, and the package variables that the reading takes, are together of bulk at most 1048576: NARROWER than '..Said'. Prove '..Said' where nothing that the law and all that it calls make is longer than what came in: it says more and counts as full. Else prove '..UptoSaid'. A law counts once. -/
mutual
def uptoBulk {H : Type} : DataW H → Nat
  | .lit (.string bytes) => bytes.length + 1
  | .lit _ => 1
  | .nil => 1
  | .ptr d => uptoBulk d + 1
  | .slice elems spare => uptoBulkAll elems + uptoBulkAll spare + 1
  | .agg parts => uptoBulkAll parts + 1
  | .iface _ d => uptoBulk d + 1
  | .map entries => uptoBulkEntries entries + 1
  | .held _ => 1
def uptoBulkAll {H : Type} : List (DataW H) → Nat
  | [] => 0
  | d :: r => uptoBulk d + uptoBulkAll r
def uptoBulkEntries {H : Type} : List (Lit × DataW H) → Nat
  | [] => 0
  | x :: r => uptoBulkEntry x + uptoBulkEntries r
def uptoBulkEntry {H : Type} : Lit × DataW H → Nat
  | (.string bytes, d) => bytes.length + uptoBulk d + 1
  | (_, d) => uptoBulk d + 1
 end
def uptoSmall : (H : Type) → List (DataW H) → Bool := fun _ ds => decide (uptoBulkAll ds ≤ 1048576)
def OpenSpec.upto (s : _root_.Go.ChangeSpec) : _root_.Go.OpenSpec := { _root_.Go.OpenSpec.ofChange s with cond := some uptoSmall }

/-- 'garthlaw17.HeapFew', WHERE WHAT IT READS IS OF BULK AT MOST 1048576: true; the input reads as it did. -/
def heapFewUptoRow : OpenClaim := { program := "ytnheibcjcgacpaagreatdoor", sum := "0e4ac01ae8cf5231923a84fb6410638330ab6ede9480a841a612fd88002abca6", func := "garth/garthlaw17.HeapFew", spec := "heapFew", named := ["math/bits.deBruijn64tab"], apart := false, laid := [("math/bits.deBruijn64tab", laid_math_bits_deBruijn64tab)], narrowed := true }
def HeapFewUptoSaid : Prop := heapFewUptoRow.holds Tryz.pinned (OpenSpec.upto heapFewSpec)

/-- 'garthlaw17.HeapOwn', WHERE WHAT IT READS IS OF BULK AT MOST 1048576: true; the input reads as it did. -/
def heapOwnUptoRow : OpenClaim := { program := "ytnheibcjcgacpaagreatdoor", sum := "0e4ac01ae8cf5231923a84fb6410638330ab6ede9480a841a612fd88002abca6", func := "garth/garthlaw17.HeapOwn", spec := "heapOwn", unfollowed := true, recurses := true, named := ["math/bits.deBruijn64tab"], apart := false, laid := [("math/bits.deBruijn64tab", laid_math_bits_deBruijn64tab)], narrowed := true }
def HeapOwnUptoSaid : Prop := heapOwnUptoRow.holds Tryz.pinned (OpenSpec.upto heapOwnSpec)

/-- 'garthlaw17.HeapClean', WHERE WHAT IT READS IS OF BULK AT MOST 1048576: true; the input reads as it did. -/
def heapCleanUptoRow : OpenClaim := { program := "ytnheibcjcgacpaagreatdoor", sum := "0e4ac01ae8cf5231923a84fb6410638330ab6ede9480a841a612fd88002abca6", func := "garth/garthlaw17.HeapClean", spec := "heapClean", unfollowed := true, recurses := true, named := ["math/bits.deBruijn64tab"], apart := false, laid := [("math/bits.deBruijn64tab", laid_math_bits_deBruijn64tab)], narrowed := true }
def HeapCleanUptoSaid : Prop := heapCleanUptoRow.holds Tryz.pinned (OpenSpec.upto heapCleanSpec)

/-- 'garthlaw17.HeapPlays', WHERE WHAT IT READS IS OF BULK AT MOST 1048576: true; the input reads as it did. -/
def heapPlaysUptoRow : OpenClaim := { program := "ytnheibcjcgacpaagreatdoor", sum := "0e4ac01ae8cf5231923a84fb6410638330ab6ede9480a841a612fd88002abca6", func := "garth/garthlaw17.HeapPlays", spec := "heapPlays", unfollowed := true, recurses := true, named := ["math/bits.deBruijn64tab"], apart := false, laid := [("math/bits.deBruijn64tab", laid_math_bits_deBruijn64tab)], narrowed := true }
def HeapPlaysUptoSaid : Prop := heapPlaysUptoRow.holds Tryz.pinned (OpenSpec.upto heapPlaysSpec)

/-- 'garthlaw17.HeapApart', WHERE WHAT IT READS IS OF BULK AT MOST 1048576: true; the input reads as it did. -/
def heapApartUptoRow : OpenClaim := { program := "ytnheibcjcgacpaagreatdoor", sum := "0e4ac01ae8cf5231923a84fb6410638330ab6ede9480a841a612fd88002abca6", func := "garth/garthlaw17.HeapApart", spec := "heapApart", inPlace := ["internal/abi.NoEscape"], unfollowed := true, recurses := true, named := ["math/bits.deBruijn64tab"], apart := false, laid := [("math/bits.deBruijn64tab", laid_math_bits_deBruijn64tab)], narrowed := true }
def HeapApartUptoSaid : Prop := heapApartUptoRow.holds Tryz.pinned (OpenSpec.upto heapApartSpec)

/-- 'garthlaw18.TenantNil', WHERE WHAT IT READS IS OF BULK AT MOST 1048576: true; the input reads as it did. -/
def tenantNilUptoRow : OpenClaim := { program := "ytnheibcjcgacpaagreatdoor", sum := "0e4ac01ae8cf5231923a84fb6410638330ab6ede9480a841a612fd88002abca6", func := "garth/garthlaw18.TenantNil", spec := "tenantNil", inPlace := ["internal/abi.NoEscape"], unfollowed := true, recurses := true, named := ["math/bits.deBruijn64tab"], apart := false, laid := [("math/bits.deBruijn64tab", laid_math_bits_deBruijn64tab)], narrowed := true }
def TenantNilUptoSaid : Prop := tenantNilUptoRow.holds Tryz.pinned (OpenSpec.upto tenantNilSpec)

/-- 'garthlaw18.TenantQuota', WHERE WHAT IT READS IS OF BULK AT MOST 1048576: true; the input reads as it did. -/
def tenantQuotaUptoRow : OpenClaim := { program := "ytnheibcjcgacpaagreatdoor", sum := "0e4ac01ae8cf5231923a84fb6410638330ab6ede9480a841a612fd88002abca6", func := "garth/garthlaw18.TenantQuota", spec := "tenantQuota", inPlace := ["internal/abi.NoEscape"], unfollowed := true, recurses := true, named := ["math/bits.deBruijn64tab"], apart := false, laid := [("math/bits.deBruijn64tab", laid_math_bits_deBruijn64tab)], narrowed := true }
def TenantQuotaUptoSaid : Prop := tenantQuotaUptoRow.holds Tryz.pinned (OpenSpec.upto tenantQuotaSpec)

/-- 'garthlaw18.TenantShares', WHERE WHAT IT READS IS OF BULK AT MOST 1048576: true; the input reads as it did. -/
def tenantSharesUptoRow : OpenClaim := { program := "ytnheibcjcgacpaagreatdoor", sum := "0e4ac01ae8cf5231923a84fb6410638330ab6ede9480a841a612fd88002abca6", func := "garth/garthlaw18.TenantShares", spec := "tenantShares", inPlace := ["internal/abi.NoEscape"], unfollowed := true, recurses := true, named := ["math/bits.deBruijn64tab"], apart := false, laid := [("math/bits.deBruijn64tab", laid_math_bits_deBruijn64tab)], narrowed := true }
def TenantSharesUptoSaid : Prop := tenantSharesUptoRow.holds Tryz.pinned (OpenSpec.upto tenantSharesSpec)

/-- 'garthlaw18.TenantGone', WHERE WHAT IT READS IS OF BULK AT MOST 1048576: true; the input reads as it did. -/
def tenantGoneUptoRow : OpenClaim := { program := "ytnheibcjcgacpaagreatdoor", sum := "0e4ac01ae8cf5231923a84fb6410638330ab6ede9480a841a612fd88002abca6", func := "garth/garthlaw18.TenantGone", spec := "tenantGone", inPlace := ["internal/abi.NoEscape"], unfollowed := true, recurses := true, named := ["math/bits.deBruijn64tab"], apart := false, laid := [("math/bits.deBruijn64tab", laid_math_bits_deBruijn64tab)], narrowed := true }
def TenantGoneUptoSaid : Prop := tenantGoneUptoRow.holds Tryz.pinned (OpenSpec.upto tenantGoneSpec)

/-- 'garthlaw18.TenantBytes', WHERE WHAT IT READS IS OF BULK AT MOST 1048576: true; the input reads as it did. -/
def tenantBytesUptoRow : OpenClaim := { program := "ytnheibcjcgacpaagreatdoor", sum := "0e4ac01ae8cf5231923a84fb6410638330ab6ede9480a841a612fd88002abca6", func := "garth/garthlaw18.TenantBytes", spec := "tenantBytes", inPlace := ["internal/abi.NoEscape"], unfollowed := true, recurses := true, named := ["math/bits.deBruijn64tab"], apart := false, laid := [("math/bits.deBruijn64tab", laid_math_bits_deBruijn64tab)], narrowed := true }
def TenantBytesUptoSaid : Prop := tenantBytesUptoRow.holds Tryz.pinned (OpenSpec.upto tenantBytesSpec)

/-- 'garthlaw18.TenantPlace', WHERE WHAT IT READS IS OF BULK AT MOST 1048576: true; the input reads as it did. -/
def tenantPlaceUptoRow : OpenClaim := { program := "ytnheibcjcgacpaagreatdoor", sum := "0e4ac01ae8cf5231923a84fb6410638330ab6ede9480a841a612fd88002abca6", func := "garth/garthlaw18.TenantPlace", spec := "tenantPlace", inPlace := ["internal/abi.NoEscape"], unfollowed := true, recurses := true, named := ["math/bits.deBruijn64tab"], apart := false, laid := [("math/bits.deBruijn64tab", laid_math_bits_deBruijn64tab)], narrowed := true }
def TenantPlaceUptoSaid : Prop := tenantPlaceUptoRow.holds Tryz.pinned (OpenSpec.upto tenantPlaceSpec)

/-- 'garthlaw18.TenantPlays', WHERE WHAT IT READS IS OF BULK AT MOST 1048576: true; the input reads as it did. -/
def tenantPlaysUptoRow : OpenClaim := { program := "ytnheibcjcgacpaagreatdoor", sum := "0e4ac01ae8cf5231923a84fb6410638330ab6ede9480a841a612fd88002abca6", func := "garth/garthlaw18.TenantPlays", spec := "tenantPlays", inPlace := ["internal/abi.NoEscape"], unfollowed := true, recurses := true, named := ["math/bits.deBruijn64tab"], apart := false, laid := [("math/bits.deBruijn64tab", laid_math_bits_deBruijn64tab)], narrowed := true }
def TenantPlaysUptoSaid : Prop := tenantPlaysUptoRow.holds Tryz.pinned (OpenSpec.upto tenantPlaysSpec)

end Rows
end Go.Proofs.YtnheibcjcgacpaaGreatDoor
