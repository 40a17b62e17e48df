/-
  No cell of these rows narrows 'for every input' (looked for: loops, veiled, ifaces, maps, wideKeys, modest, calm, conditions, laid).
  DERIVED. THE GIVEN ROWS OF THIS SEAT. 11 by the template 'for every input the law returns true; each argument reads behind the call as it read before'; 0 by the template 'total and deterministic' (their statements: YtmlolkjgniodpaaTotals.lean).
  GIVEN WITH THE SEED: the statements are not yours to turn. If you find one false, say at which input.
  Laid BY PROGRAM, IN A SANDBOX (cutbox-rows.mjs): the forced cells as the released guide's own fill.sh prints them over the translation fc794208f49dd3a4… (all of the seat's roots in one cut). By AI agents, Wed Nov 11 2026. No macro, syntax, notation, axiom, sorry.
-/
import Derived.Test.YtmlolkjgniodpaaChecked
import GoSem.Claim
import GoSem.ClaimJoined
import GoSem.ClaimMapViews
import Derived.JoinedTies
import Derived.KernelRfl
namespace Go.Proofs.Ytmlolkjgniodpaa
/- THE CELL 'sum', in the pinned program and in every row, IS THE sha256 OF THE DUMP (.gsa) THAT YtmlolkjgniodpaaProg.lean LOADS. Nothing in Lean hashes anything: it is a label: what it is worth is what the hold of that sum in a sandbox is worth. -/
noncomputable def Try.pinned : Pinned := { name := "ytmlolkjgniodpaa", sum := "fc794208f49dd3a470f482f7e95e3785aad9a4ce2fbf0ed031ffc649fe7e474c", checked := Try.checked }
namespace Rows
def none {H : Type} : Left H := { results := [], args := [] }

/-- 'garthlaw24.ProjectViews': WHATEVER THE INPUT: true; the input reads as it did. -/
def projectViewsSpec : ChangeSpec := { name := "projectViews", fn := fun _ => fun
  | [d1, d2, d3, d4, d5] => { results := [.lit (.bool true)], args := [d1, d2, d3, d4, d5] }
  | _ => none }
def projectViewsRow : OpenClaim := { program := "ytmlolkjgniodpaa", sum := "fc794208f49dd3a470f482f7e95e3785aad9a4ce2fbf0ed031ffc649fe7e474c", func := "garth/garthlaw24.ProjectViews", spec := "projectViews", apart := false }
def ProjectViewsSaid : Prop := projectViewsRow.holds Try.pinned (OpenSpec.ofChange projectViewsSpec)

/-- ITS FALSE NEIGHBOUR: 'it returns false'. Refute it at one input. -/
def projectViewsWrong : ChangeSpec := { name := "projectViews", fn := fun _ => fun
  | [d1, d2, d3, d4, d5] => { results := [.lit (.bool false)], args := [d1, d2, d3, d4, d5] }
  | _ => none }
def ProjectViewsWrongFalsely : Prop := projectViewsRow.holds Try.pinned (OpenSpec.ofChange projectViewsWrong)

/-- 'garthlaw13.LineOrder': WHATEVER THE INPUT: true; the input reads as it did. -/
def lineOrderSpec : ChangeSpec := { name := "lineOrder", fn := fun _ => fun
  | [d] => { results := [.lit (.bool true)], args := [d] }
  | _ => none }
def lineOrderRow : OpenClaim := { program := "ytmlolkjgniodpaa", sum := "fc794208f49dd3a470f482f7e95e3785aad9a4ce2fbf0ed031ffc649fe7e474c", func := "garth/garthlaw13.LineOrder", spec := "lineOrder", apart := false }
def LineOrderSaid : Prop := lineOrderRow.holds Try.pinned (OpenSpec.ofChange lineOrderSpec)

/-- ITS FALSE NEIGHBOUR: 'it returns false'. Refute it at one input. -/
def lineOrderWrong : ChangeSpec := { name := "lineOrder", fn := fun _ => fun
  | [d] => { results := [.lit (.bool false)], args := [d] }
  | _ => none }
def LineOrderWrongFalsely : Prop := lineOrderRow.holds Try.pinned (OpenSpec.ofChange lineOrderWrong)

/-- 'garthlaw13.LineStays': WHATEVER THE INPUT: true; the input reads as it did. -/
def lineStaysSpec : ChangeSpec := { name := "lineStays", fn := fun _ => fun
  | [d1, d2] => { results := [.lit (.bool true)], args := [d1, d2] }
  | _ => none }
def lineStaysRow : OpenClaim := { program := "ytmlolkjgniodpaa", sum := "fc794208f49dd3a470f482f7e95e3785aad9a4ce2fbf0ed031ffc649fe7e474c", func := "garth/garthlaw13.LineStays", spec := "lineStays", apart := false }
def LineStaysSaid : Prop := lineStaysRow.holds Try.pinned (OpenSpec.ofChange lineStaysSpec)

/-- ITS FALSE NEIGHBOUR: 'it returns false'. Refute it at one input. -/
def lineStaysWrong : ChangeSpec := { name := "lineStays", fn := fun _ => fun
  | [d1, d2] => { results := [.lit (.bool false)], args := [d1, d2] }
  | _ => none }
def LineStaysWrongFalsely : Prop := lineStaysRow.holds Try.pinned (OpenSpec.ofChange lineStaysWrong)

/-- 'garthlaw15.TableBack': WHATEVER THE INPUT: true; the input reads as it did. -/
def tableBackSpec : ChangeSpec := { name := "tableBack", fn := fun _ => fun
  | [d1, d2, d3] => { results := [.lit (.bool true)], args := [d1, d2, d3] }
  | _ => none }
def tableBackRow : OpenClaim := { program := "ytmlolkjgniodpaa", sum := "fc794208f49dd3a470f482f7e95e3785aad9a4ce2fbf0ed031ffc649fe7e474c", func := "garth/garthlaw15.TableBack", spec := "tableBack", apart := false }
def TableBackSaid : Prop := tableBackRow.holds Try.pinned (OpenSpec.ofChange tableBackSpec)

/-- ITS FALSE NEIGHBOUR: 'it returns false'. Refute it at one input. -/
def tableBackWrong : ChangeSpec := { name := "tableBack", fn := fun _ => fun
  | [d1, d2, d3] => { results := [.lit (.bool false)], args := [d1, d2, d3] }
  | _ => none }
def TableBackWrongFalsely : Prop := tableBackRow.holds Try.pinned (OpenSpec.ofChange tableBackWrong)

/-- 'garthlaw13.LinePlays': WHATEVER THE INPUT: true; the input reads as it did. -/
def linePlaysSpec : ChangeSpec := { name := "linePlays", fn := fun _ => fun
  | [d] => { results := [.lit (.bool true)], args := [d] }
  | _ => none }
def linePlaysRow : OpenClaim := { program := "ytmlolkjgniodpaa", sum := "fc794208f49dd3a470f482f7e95e3785aad9a4ce2fbf0ed031ffc649fe7e474c", func := "garth/garthlaw13.LinePlays", spec := "linePlays", inPlace := ["maps.clone"], apart := false }
def LinePlaysSaid : Prop := linePlaysRow.holds Try.pinned (OpenSpec.ofChange linePlaysSpec)

/-- ITS FALSE NEIGHBOUR: 'it returns false'. Refute it at one input. -/
def linePlaysWrong : ChangeSpec := { name := "linePlays", fn := fun _ => fun
  | [d] => { results := [.lit (.bool false)], args := [d] }
  | _ => none }
def LinePlaysWrongFalsely : Prop := linePlaysRow.holds Try.pinned (OpenSpec.ofChange linePlaysWrong)

/-- 'garthlaw13.LineNil': WHATEVER THE INPUT: true; the input reads as it did. -/
def lineNilSpec : ChangeSpec := { name := "lineNil", fn := fun _ => fun
  | [d] => { results := [.lit (.bool true)], args := [d] }
  | _ => none }
def lineNilRow : OpenClaim := { program := "ytmlolkjgniodpaa", sum := "fc794208f49dd3a470f482f7e95e3785aad9a4ce2fbf0ed031ffc649fe7e474c", func := "garth/garthlaw13.LineNil", spec := "lineNil", inPlace := ["maps.clone"], apart := false }
def LineNilSaid : Prop := lineNilRow.holds Try.pinned (OpenSpec.ofChange lineNilSpec)

/-- ITS FALSE NEIGHBOUR: 'it returns false'. Refute it at one input. -/
def lineNilWrong : ChangeSpec := { name := "lineNil", fn := fun _ => fun
  | [d] => { results := [.lit (.bool false)], args := [d] }
  | _ => none }
def LineNilWrongFalsely : Prop := lineNilRow.holds Try.pinned (OpenSpec.ofChange lineNilWrong)

/-- 'garthlaw15.TablePieces': WHATEVER THE INPUT: true; the input reads as it did. -/
def tablePiecesSpec : ChangeSpec := { name := "tablePieces", fn := fun _ => fun
  | [d1, d2, d3] => { results := [.lit (.bool true)], args := [d1, d2, d3] }
  | _ => none }
def tablePiecesRow : OpenClaim := { program := "ytmlolkjgniodpaa", sum := "fc794208f49dd3a470f482f7e95e3785aad9a4ce2fbf0ed031ffc649fe7e474c", func := "garth/garthlaw15.TablePieces", spec := "tablePieces", apart := false }
def TablePiecesSaid : Prop := tablePiecesRow.holds Try.pinned (OpenSpec.ofChange tablePiecesSpec)

/-- ITS FALSE NEIGHBOUR: 'it returns false'. Refute it at one input. -/
def tablePiecesWrong : ChangeSpec := { name := "tablePieces", fn := fun _ => fun
  | [d1, d2, d3] => { results := [.lit (.bool false)], args := [d1, d2, d3] }
  | _ => none }
def TablePiecesWrongFalsely : Prop := tablePiecesRow.holds Try.pinned (OpenSpec.ofChange tablePiecesWrong)

/-- 'garthlaw22.ScriptReads': WHATEVER THE INPUT: true; the input reads as it did. -/
def scriptReadsSpec : ChangeSpec := { name := "scriptReads", fn := fun _ => fun
  | [d] => { results := [.lit (.bool true)], args := [d] }
  | _ => none }
def scriptReadsRow : OpenClaim := { program := "ytmlolkjgniodpaa", sum := "fc794208f49dd3a470f482f7e95e3785aad9a4ce2fbf0ed031ffc649fe7e474c", func := "garth/garthlaw22.ScriptReads", spec := "scriptReads", apart := false }
def ScriptReadsSaid : Prop := scriptReadsRow.holds Try.pinned (OpenSpec.ofChange scriptReadsSpec)

/-- ITS FALSE NEIGHBOUR: 'it returns false'. Refute it at one input. -/
def scriptReadsWrong : ChangeSpec := { name := "scriptReads", fn := fun _ => fun
  | [d] => { results := [.lit (.bool false)], args := [d] }
  | _ => none }
def ScriptReadsWrongFalsely : Prop := scriptReadsRow.holds Try.pinned (OpenSpec.ofChange scriptReadsWrong)

/-- 'garthlaw22.ScriptPrints': WHATEVER THE INPUT: true; the input reads as it did. -/
def scriptPrintsSpec : ChangeSpec := { name := "scriptPrints", fn := fun _ => fun
  | [d] => { results := [.lit (.bool true)], args := [d] }
  | _ => none }
def scriptPrintsRow : OpenClaim := { program := "ytmlolkjgniodpaa", sum := "fc794208f49dd3a470f482f7e95e3785aad9a4ce2fbf0ed031ffc649fe7e474c", func := "garth/garthlaw22.ScriptPrints", spec := "scriptPrints", apart := false }
def ScriptPrintsSaid : Prop := scriptPrintsRow.holds Try.pinned (OpenSpec.ofChange scriptPrintsSpec)

/-- ITS FALSE NEIGHBOUR: 'it returns false'. Refute it at one input. -/
def scriptPrintsWrong : ChangeSpec := { name := "scriptPrints", fn := fun _ => fun
  | [d] => { results := [.lit (.bool false)], args := [d] }
  | _ => none }
def ScriptPrintsWrongFalsely : Prop := scriptPrintsRow.holds Try.pinned (OpenSpec.ofChange scriptPrintsWrong)

/-- 'garthlaw22.ScriptBack': WHATEVER THE INPUT: true; the input reads as it did. -/
def scriptBackSpec : ChangeSpec := { name := "scriptBack", fn := fun _ => fun
  | [d1, d2] => { results := [.lit (.bool true)], args := [d1, d2] }
  | _ => none }
def scriptBackRow : OpenClaim := { program := "ytmlolkjgniodpaa", sum := "fc794208f49dd3a470f482f7e95e3785aad9a4ce2fbf0ed031ffc649fe7e474c", func := "garth/garthlaw22.ScriptBack", spec := "scriptBack", apart := false }
def ScriptBackSaid : Prop := scriptBackRow.holds Try.pinned (OpenSpec.ofChange scriptBackSpec)

/-- ITS FALSE NEIGHBOUR: 'it returns false'. Refute it at one input. -/
def scriptBackWrong : ChangeSpec := { name := "scriptBack", fn := fun _ => fun
  | [d1, d2] => { results := [.lit (.bool false)], args := [d1, d2] }
  | _ => none }
def ScriptBackWrongFalsely : Prop := scriptBackRow.holds Try.pinned (OpenSpec.ofChange scriptBackWrong)

/-- 'garthlaw22.ScriptCuts': WHATEVER THE INPUT: true; the input reads as it did. -/
def scriptCutsSpec : ChangeSpec := { name := "scriptCuts", fn := fun _ => fun
  | [d1, d2] => { results := [.lit (.bool true)], args := [d1, d2] }
  | _ => none }
def scriptCutsRow : OpenClaim := { program := "ytmlolkjgniodpaa", sum := "fc794208f49dd3a470f482f7e95e3785aad9a4ce2fbf0ed031ffc649fe7e474c", func := "garth/garthlaw22.ScriptCuts", spec := "scriptCuts", apart := false }
def ScriptCutsSaid : Prop := scriptCutsRow.holds Try.pinned (OpenSpec.ofChange scriptCutsSpec)

/-- ITS FALSE NEIGHBOUR: 'it returns false'. Refute it at one input. -/
def scriptCutsWrong : ChangeSpec := { name := "scriptCuts", fn := fun _ => fun
  | [d1, d2] => { results := [.lit (.bool false)], args := [d1, d2] }
  | _ => none }
def ScriptCutsWrongFalsely : Prop := scriptCutsRow.holds Try.pinned (OpenSpec.ofChange scriptCutsWrong)

/- THE SECOND FORM. 'bulk': how many values and letters a reading holds, each counted each time it is reached (what is shared counts as often as it is met; a slice's spare places count too). A statement '..UptoSaid' is the law's where the arguments, and the package variables that the reading takes, are together of bulk at most 1048576: NARROWER than '..Said'. Prove '..Said' where nothing that the law and all that it calls make is longer than what came in: it says more and counts as full. Else prove '..UptoSaid'. A law counts once. -/
mutual
def uptoBulk {H : Type} : DataW H → Nat
  | .lit (.string bytes) => bytes.length + 1
  | .lit _ => 1
  | .nil => 1
  | .ptr d => uptoBulk d + 1
  | .slice elems spare => uptoBulkAll elems + uptoBulkAll spare + 1
  | .agg parts => uptoBulkAll parts + 1
  | .iface _ d => uptoBulk d + 1
  | .map entries => uptoBulkEntries entries + 1
  | .held _ => 1
def uptoBulkAll {H : Type} : List (DataW H) → Nat
  | [] => 0
  | d :: r => uptoBulk d + uptoBulkAll r
def uptoBulkEntries {H : Type} : List (Lit × DataW H) → Nat
  | [] => 0
  | x :: r => uptoBulkEntry x + uptoBulkEntries r
def uptoBulkEntry {H : Type} : Lit × DataW H → Nat
  | (.string bytes, d) => bytes.length + uptoBulk d + 1
  | (_, d) => uptoBulk d + 1
 end
def uptoSmall : (H : Type) → List (DataW H) → Bool := fun _ ds => decide (uptoBulkAll ds ≤ 1048576)
def OpenSpec.upto (s : _root_.Go.ChangeSpec) : _root_.Go.OpenSpec := { _root_.Go.OpenSpec.ofChange s with cond := some uptoSmall }

/-- 'garthlaw24.ProjectViews', WHERE WHAT IT READS IS OF BULK AT MOST 1048576: true; the input reads as it did. -/
def projectViewsUptoRow : OpenClaim := { program := "ytmlolkjgniodpaa", sum := "fc794208f49dd3a470f482f7e95e3785aad9a4ce2fbf0ed031ffc649fe7e474c", func := "garth/garthlaw24.ProjectViews", spec := "projectViews", apart := false, narrowed := true }
def ProjectViewsUptoSaid : Prop := projectViewsUptoRow.holds Try.pinned (OpenSpec.upto projectViewsSpec)

/-- 'garthlaw13.LineOrder', WHERE WHAT IT READS IS OF BULK AT MOST 1048576: true; the input reads as it did. -/
def lineOrderUptoRow : OpenClaim := { program := "ytmlolkjgniodpaa", sum := "fc794208f49dd3a470f482f7e95e3785aad9a4ce2fbf0ed031ffc649fe7e474c", func := "garth/garthlaw13.LineOrder", spec := "lineOrder", apart := false, narrowed := true }
def LineOrderUptoSaid : Prop := lineOrderUptoRow.holds Try.pinned (OpenSpec.upto lineOrderSpec)

/-- 'garthlaw13.LineStays', WHERE WHAT IT READS IS OF BULK AT MOST 1048576: true; the input reads as it did. -/
def lineStaysUptoRow : OpenClaim := { program := "ytmlolkjgniodpaa", sum := "fc794208f49dd3a470f482f7e95e3785aad9a4ce2fbf0ed031ffc649fe7e474c", func := "garth/garthlaw13.LineStays", spec := "lineStays", apart := false, narrowed := true }
def LineStaysUptoSaid : Prop := lineStaysUptoRow.holds Try.pinned (OpenSpec.upto lineStaysSpec)

/-- 'garthlaw15.TableBack', WHERE WHAT IT READS IS OF BULK AT MOST 1048576: true; the input reads as it did. -/
def tableBackUptoRow : OpenClaim := { program := "ytmlolkjgniodpaa", sum := "fc794208f49dd3a470f482f7e95e3785aad9a4ce2fbf0ed031ffc649fe7e474c", func := "garth/garthlaw15.TableBack", spec := "tableBack", apart := false, narrowed := true }
def TableBackUptoSaid : Prop := tableBackUptoRow.holds Try.pinned (OpenSpec.upto tableBackSpec)

/-- 'garthlaw13.LinePlays', WHERE WHAT IT READS IS OF BULK AT MOST 1048576: true; the input reads as it did. -/
def linePlaysUptoRow : OpenClaim := { program := "ytmlolkjgniodpaa", sum := "fc794208f49dd3a470f482f7e95e3785aad9a4ce2fbf0ed031ffc649fe7e474c", func := "garth/garthlaw13.LinePlays", spec := "linePlays", inPlace := ["maps.clone"], apart := false, narrowed := true }
def LinePlaysUptoSaid : Prop := linePlaysUptoRow.holds Try.pinned (OpenSpec.upto linePlaysSpec)

/-- 'garthlaw13.LineNil', WHERE WHAT IT READS IS OF BULK AT MOST 1048576: true; the input reads as it did. -/
def lineNilUptoRow : OpenClaim := { program := "ytmlolkjgniodpaa", sum := "fc794208f49dd3a470f482f7e95e3785aad9a4ce2fbf0ed031ffc649fe7e474c", func := "garth/garthlaw13.LineNil", spec := "lineNil", inPlace := ["maps.clone"], apart := false, narrowed := true }
def LineNilUptoSaid : Prop := lineNilUptoRow.holds Try.pinned (OpenSpec.upto lineNilSpec)

/-- 'garthlaw15.TablePieces', WHERE WHAT IT READS IS OF BULK AT MOST 1048576: true; the input reads as it did. -/
def tablePiecesUptoRow : OpenClaim := { program := "ytmlolkjgniodpaa", sum := "fc794208f49dd3a470f482f7e95e3785aad9a4ce2fbf0ed031ffc649fe7e474c", func := "garth/garthlaw15.TablePieces", spec := "tablePieces", apart := false, narrowed := true }
def TablePiecesUptoSaid : Prop := tablePiecesUptoRow.holds Try.pinned (OpenSpec.upto tablePiecesSpec)

/-- 'garthlaw22.ScriptReads', WHERE WHAT IT READS IS OF BULK AT MOST 1048576: true; the input reads as it did. -/
def scriptReadsUptoRow : OpenClaim := { program := "ytmlolkjgniodpaa", sum := "fc794208f49dd3a470f482f7e95e3785aad9a4ce2fbf0ed031ffc649fe7e474c", func := "garth/garthlaw22.ScriptReads", spec := "scriptReads", apart := false, narrowed := true }
def ScriptReadsUptoSaid : Prop := scriptReadsUptoRow.holds Try.pinned (OpenSpec.upto scriptReadsSpec)

/-- 'garthlaw22.ScriptPrints', WHERE WHAT IT READS IS OF BULK AT MOST 1048576: true; the input reads as it did. -/
def scriptPrintsUptoRow : OpenClaim := { program := "ytmlolkjgniodpaa", sum := "fc794208f49dd3a470f482f7e95e3785aad9a4ce2fbf0ed031ffc649fe7e474c", func := "garth/garthlaw22.ScriptPrints", spec := "scriptPrints", apart := false, narrowed := true }
def ScriptPrintsUptoSaid : Prop := scriptPrintsUptoRow.holds Try.pinned (OpenSpec.upto scriptPrintsSpec)

/-- 'garthlaw22.ScriptBack', WHERE WHAT IT READS IS OF BULK AT MOST 1048576: true; the input reads as it did. -/
def scriptBackUptoRow : OpenClaim := { program := "ytmlolkjgniodpaa", sum := "fc794208f49dd3a470f482f7e95e3785aad9a4ce2fbf0ed031ffc649fe7e474c", func := "garth/garthlaw22.ScriptBack", spec := "scriptBack", apart := false, narrowed := true }
def ScriptBackUptoSaid : Prop := scriptBackUptoRow.holds Try.pinned (OpenSpec.upto scriptBackSpec)

/-- 'garthlaw22.ScriptCuts', WHERE WHAT IT READS IS OF BULK AT MOST 1048576: true; the input reads as it did. -/
def scriptCutsUptoRow : OpenClaim := { program := "ytmlolkjgniodpaa", sum := "fc794208f49dd3a470f482f7e95e3785aad9a4ce2fbf0ed031ffc649fe7e474c", func := "garth/garthlaw22.ScriptCuts", spec := "scriptCuts", apart := false, narrowed := true }
def ScriptCutsUptoSaid : Prop := scriptCutsUptoRow.holds Try.pinned (OpenSpec.upto scriptCutsSpec)

end Rows
end Go.Proofs.Ytmlolkjgniodpaa
