/- ModelNil's walk. -/
import Derived.Test.YtagmkkddjdlncaaDoorMoX
import Derived.Test.YtagmkkddjdlncaaDoorOpg
set_option linter.unusedVariables false
set_option linter.unusedSimpArgs false
namespace Go.Proofs.YtagmkkddjdlncaaDoor
open Go.RowKit Go.ChangeMaps
namespace Mo
set_option maxRecDepth 100000 in
set_option maxHeartbeats 4000000 in
theorem nil_any (w : World) (o : GOp) (ok : o.Ok) (id : Int) (hT : Sh.Tab w) :
    Calls Tryd.prog 4 #[.agg o.enc.toArray, .int .i64 id] w fun e w' => e = .returned (.bool true) ∧ Keeps (fun _ => False) w w' := by
  obtain ⟨kind, t, n, m, h, d⟩ := o
  unfold GOp.enc
  dsimp only
  have hd := ok.d
  simp only at hd
  unfold maxLen at hd
  obtain ⟨w1, hw1⟩ : ∃ w1, w.alloc (.cells #[.int .i64 kind, .int .i64 t, .int .i64 n, .int .i64 m, .int .u64 h, .string (bs d)] 34) = w1 := ⟨_, rfl⟩
  have k1 : Keeps (fun _ => False) w w1 := by rw [← hw1]; exact (Keeps.refl _ _).alloc _
  have a1 : w1.heap[w.heap.size]? = some (.cells #[.int .i64 kind, .int .i64 t, .int .i64 n, .int .i64 m, .int .u64 h, .string (bs d)] 34 (0, 0)) := by rw [← hw1]; exact alloc_new _ _
  obtain ⟨A, hA⟩ : ∃ A, w.heap.size = A := ⟨_, rfl⟩
  rw [hA] at a1
  obtain ⟨⟨x0, x1, x2, x3, x4, x5⟩, -⟩ := six_cells a1
  have T1 := hT.old k1
  have qa := awake_any w1 T1
  have HK1 := Hid.of (And.intro k1 a1)
  clear k1 a1 hT
  by_cases hl : 16384 < d.length
  · clear ok T1
    go_enter Tryd.func4, Tryd.ntmps4
    go_wp2_with fail
    refine qa.mono ?_
    rintro e w2 ⟨rfl, k2⟩
    have HF := Hid.of (HK1.out.1.trans k2)
    clear qa k2
    go_wp2
    go_ret
    exact ⟨rfl, HF.out⟩
  · have hl2 : decide ((16384 : Int) < (d.length : Int)) = false := by simp; omega
    have q1 := object_nil w1 id h
    have q2 := fun w => do_nil w ⟨kind, t, n, m, h, bs d⟩
    unfold XOp.enc XAns.enc at q2
    dsimp only at q2
    have q3 := fun w => live_nil w id
    have q4 := fun w => charged_nil w id
    have q5 := fun w => free_nil w
    have q6 := fun w => copy_nil w
    clear ok T1 hl
    go_enter Tryd.func4, Tryd.ntmps4
    go_wp2_with fail
    refine q1.mono ?_
    rintro e w2 ⟨rfl, rfl⟩
    clear q1
    go_wp2_with fail
    refine qa.mono ?_
    rintro e w2 ⟨rfl, k2⟩
    have q := q2 w2
    obtain ⟨⟨y0, y1, y2, y3, y4, y5⟩, -⟩ := six_cells (k2.at HK1.out.2 (fun x => x))
    have HK2 := Hid.of (HK1.out.1.trans k2)
    clear qa k2 q2 HK1
    go_wp2_with fail
    refine q.mono ?_
    rintro e w3 ⟨rfl, k3⟩
    have HK3 := Hid.of (HK2.out.trans k3)
    have q := q3 w3
    clear k3 HK2 q3
    go_wp2_with fail
    refine q.mono ?_
    rintro e w4 ⟨rfl, rfl⟩
    have q := q4 w3
    clear q4
    go_wp2_with fail
    refine q.mono ?_
    rintro e w4 ⟨rfl, rfl⟩
    have q := q5 w3
    clear q5
    go_wp2_with fail
    refine q.mono ?_
    rintro e w4 ⟨rfl, rfl⟩
    have q := q6 w3
    clear q6
    go_wp2_with fail
    refine q.mono ?_
    rintro e w4 ⟨rfl, rfl⟩
    clear q
    go_wp2
    go_ret
    exact ⟨rfl, HK3.out⟩
end Mo
end Go.Proofs.YtagmkkddjdlncaaDoor
