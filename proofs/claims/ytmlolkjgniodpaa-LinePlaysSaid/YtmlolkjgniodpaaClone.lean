/- maps.Clone at an int-keyed map: a new block with the same entries. -/
import Derived.Test.YtmlolkjgniodpaaRows
import Derived.Test.YtmlolkjgniodpaaBase
import Derived.Shelf.SlMaps.Clone
import Derived.WalkSpells
import Derived.WalkLawsBesides
set_option linter.unusedVariables false
set_option linter.unusedSimpArgs false
namespace Go.Proofs.Ytmlolkjgniodpaa
open Go.RowKit Go.ChangeMaps

set_option maxRecDepth 100000 in
set_option maxHeartbeats 1000000 in
theorem clone_near (w : World) (r : Nat) (es : Array MapEntry) (cl : Nat) (hb : w.heap[r]? = some (.map es cl)) :
    Calls Try.prog 60 #[.map (some r)] w fun e w' => e = .returned (.map (some w.heap.size)) ∧ w' = w.alloc (.map es cl) := by
  have hq := fun w => run_eql_map_nil_sl (P := Try.prog) w 89 _ _ (some r) Try.underlying89
  go_enter Try.func60, Try.ntmps60
  go_wp2
  rw [run_callFunc_extern Try.func69 (by kernel_rfl) (by kernel_rfl) (by kernel_rfl) (e := Extern.MapsClone.clone) (by kernel_rfl), run_maps_clone_sl w 89 hb]
  simp only [Result.andThen]
  rw [Oper.upon_value]
  go_wp2
  rw [run_typeAssert_map_sl _ 89 20 _ _ _ Try.underlying89]
  simp only [Result.andThen]
  rw [Oper.upon_value]
  go_wp2
  go_ret
  exact ⟨rfl, rfl⟩
end Go.Proofs.Ytmlolkjgniodpaa
