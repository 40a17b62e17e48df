/- A model that is none: Do. -/
import Derived.Test.YtagmkkddjdlncaaDoorMoB
import Derived.Laws.ResultCell
set_option linter.unusedVariables false
set_option linter.unusedSimpArgs false
namespace Go.Proofs.YtagmkkddjdlncaaDoor
open Go.RowKit Go.ChangeMaps
namespace Mo
set_option maxRecDepth 100000 in
set_option maxHeartbeats 1000000 in
theorem do_nil (w : World) (o : XOp) : Calls Tryd.prog 9 #[.pointer none, .agg o.enc.toArray] w fun e w' => e = .returned (.agg (XAns.enc ⟨11, 0, 0, 0, ⟨#[]⟩, 0⟩).toArray) ∧ Keeps (fun _ => False) w w' := by
  obtain ⟨kind, tenant, n, m, handle, data⟩ := o
  unfold XOp.enc XAns.enc
  dsimp only
  go_enter Tryd.func9, Tryd.ntmps9
  go_wp2
  have K : Keeps (fun _ => False) w ((w.alloc (.cells #[.int .i64 kind, .int .i64 tenant, .int .i64 n, .int .i64 m, .int .u64 handle, .string data] 34)).alloc (.cells #[.int .i64 11, .int .u64 0, .int .i64 0, .int .i64 0, .string ⟨#[]⟩, .int .i64 0] 36)) := ((Keeps.refl _ _).alloc _).alloc _
  have hb := alloc_new (w.alloc (.cells #[.int .i64 kind, .int .i64 tenant, .int .i64 n, .int .i64 m, .int .u64 handle, .string data] 34)) (.cells #[.int .i64 11, .int .u64 0, .int .i64 0, .int .i64 0, .string ⟨#[]⟩, .int .i64 0] 36)
  have hz : (w.alloc (.cells #[.int .i64 kind, .int .i64 tenant, .int .i64 n, .int .i64 m, .int .u64 handle, .string data] 34)).heap.size = w.heap.size + 1 := by simp
  rw [hz] at hb
  generalize (w.alloc (.cells #[.int .i64 kind, .int .i64 tenant, .int .i64 n, .int .i64 m, .int .u64 handle, .string data] 34)).alloc (.cells #[.int .i64 11, .int .u64 0, .int .i64 0, .int .i64 0, .string ⟨#[]⟩, .int .i64 0] 36) = w4 at *
  have e0 := cell_of (v := .int .i64 11) hb 0 rfl
  have e1 := cell_of (v := .int .u64 0) hb 1 rfl
  have e2 := cell_of (v := .int .i64 0) hb 2 rfl
  have e3 := cell_of (v := .int .i64 0) hb 3 rfl
  have e4 := cell_of (v := .string ⟨#[]⟩) hb 4 rfl
  have e5 := cell_of (v := .int .i64 0) hb 5 rfl
  refine bodyPost_ret (v := .agg #[.int .i64 11, .int .u64 0, .int .i64 0, .int .i64 0, .string ⟨#[]⟩, .int .i64 0]) ?_ ?_ ?_
  · simp [results, Tryd.results9, go_sem, e0, e1, e2, e3, e4, e5]
  · rfl
  · exact ⟨rfl, K⟩
end Mo
end Go.Proofs.YtagmkkddjdlncaaDoor
