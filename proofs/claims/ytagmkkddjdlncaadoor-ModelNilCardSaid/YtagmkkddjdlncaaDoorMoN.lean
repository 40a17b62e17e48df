/- A model that is none: at, Live, Charged, Object, Free, Copy. -/
import Derived.Test.YtagmkkddjdlncaaDoorCaF
set_option linter.unusedVariables false
set_option linter.unusedSimpArgs false
namespace Go.Proofs.YtagmkkddjdlncaaDoor
open Go.RowKit Go.ChangeMaps
namespace Mo
set_option maxRecDepth 100000 in
theorem at_nil (w : World) (id : Int) : Calls Tryd.prog 23 #[.pointer none, .int .i64 id] w fun e w' => e = .returned (.pointer none) ∧ w = w' := by
  go_enter Tryd.func23, Tryd.ntmps23
  go_wp2
  go_ret
  exact ⟨rfl, rfl⟩
set_option maxRecDepth 100000 in
theorem live_nil (w : World) (id : Int) : Calls Tryd.prog 12 #[.pointer none, .int .i64 id] w fun e w' => e = .returned (.bool false) ∧ w = w' := by
  have q := at_nil w id
  go_enter Tryd.func12, Tryd.ntmps12
  go_wp2_with fail
  refine q.mono ?_
  rintro e w1 ⟨rfl, rfl⟩
  clear q
  go_wp2
  go_ret
  exact ⟨rfl, rfl⟩
set_option maxRecDepth 100000 in
theorem chargedp_nil (w : World) : Calls Tryd.prog 25 #[.pointer none] w fun e w' => e = .returned (.int .i64 0) ∧ w = w' := by
  go_enter Tryd.func25, Tryd.ntmps25
  go_wp2
  go_ret
  exact ⟨rfl, rfl⟩
set_option maxRecDepth 100000 in
theorem charged_nil (w : World) (id : Int) : Calls Tryd.prog 13 #[.pointer none, .int .i64 id] w fun e w' => e = .returned (.int .i64 0) ∧ w = w' := by
  have q := at_nil w id
  have q2 := chargedp_nil w
  go_enter Tryd.func13, Tryd.ntmps13
  go_wp2_with fail
  refine q.mono ?_
  rintro e w1 ⟨rfl, rfl⟩
  clear q
  go_wp2_with fail
  refine q2.mono ?_
  rintro e w1 ⟨rfl, rfl⟩
  clear q2
  go_wp2
  go_ret
  exact ⟨rfl, rfl⟩
set_option maxRecDepth 100000 in
theorem free_nil (w : World) : Calls Tryd.prog 14 #[.pointer none] w fun e w' => e = .returned (.int .i64 0) ∧ w = w' := by
  go_enter Tryd.func14, Tryd.ntmps14
  go_wp2
  go_ret
  exact ⟨rfl, rfl⟩
set_option maxRecDepth 100000 in
theorem copy_nil (w : World) : Calls Tryd.prog 10 #[.pointer none] w fun e w' => e = .returned (.pointer none) ∧ w = w' := by
  go_enter Tryd.func10, Tryd.ntmps10
  go_wp2
  go_ret
  exact ⟨rfl, rfl⟩
set_option maxRecDepth 100000 in
theorem object_nil (w : World) (id : Int) (h : Int) : Calls Tryd.prog 11 #[.pointer none, .int .i64 id, .int .u64 h] w fun e w' => e = .returned (.tuple #[.string ⟨#[]⟩, .bool false]) ∧ w = w' := by
  have q := at_nil w id
  go_enter Tryd.func11, Tryd.ntmps11
  go_wp2_with fail
  refine q.mono ?_
  rintro e w1 ⟨rfl, rfl⟩
  clear q
  go_wp2
  go_ret2
  exact ⟨rfl, rfl⟩
end Mo
end Go.Proofs.YtagmkkddjdlncaaDoor
