/- The statement ProjectViews: for every input the call returns true, and each argument reads behind it as it did. No condition. -/
import Derived.Test.YtmlolkjgniodpaaRows
import Derived.WalkKit
import Derived.ProofKit
import Derived.OpenShut
import Derived.ShutString
import Derived.ChangeOld
import Derived.Below
import Derived.Test.YtmlolkjgniodpaaArgs
import Derived.Test.YtmlolkjgniodpaaProjK
import Derived.Test.YtmlolkjgniodpaaArgs
set_option linter.unusedVariables false
set_option linter.unusedSimpArgs false
namespace Go.Proofs.Ytmlolkjgniodpaa.projectViews
open Go.ChangeShapes Go.WideShapes Go.ChangeAt Go.RowKit
open Go.ChangeMaps (open_string shut_string)

theorem own : ownKnob Try.prog.godebug = none := by kernel_rfl
theorem laidOut : laidOutB Try.prog = true := by kernel_rfl
theorem flat1 : flat Try.prog 6 22 = some [.sl 6 [.int .i64, .int .i64, .int .i64, .int .i64, .int .u64, .str]] := by kernel_rfl
theorem flat2 : flat Try.prog 6 23 = some [.sl 6 [.int .i64, .int .u64, .int .i64, .int .i64, .str, .int .i64]] := by kernel_rfl
theorem flat3 : flat Try.prog 6 22 = some [.sl 6 [.int .i64, .int .i64, .int .i64, .int .i64, .int .u64, .str]] := by kernel_rfl
theorem flat4 : flat Try.prog 6 23 = some [.sl 6 [.int .i64, .int .u64, .int .i64, .int .i64, .str, .int .i64]] := by kernel_rfl

theorem walk (a0 : Int) (a1 : Value) (a2 : Value) (a3 : Value) (a4 : Value) (w : World) (w0 : (Lit.int .i64 a0).wf = true) (w1 : Leaf.ok w 6 (.sl 6 [.int .i64, .int .i64, .int .i64, .int .i64, .int .u64, .str]) a1) (w2 : Leaf.ok w 6 (.sl 6 [.int .i64, .int .u64, .int .i64, .int .i64, .str, .int .i64]) a2) (w3 : Leaf.ok w 6 (.sl 6 [.int .i64, .int .i64, .int .i64, .int .i64, .int .u64, .str]) a3) (w4 : Leaf.ok w 6 (.sl 6 [.int .i64, .int .u64, .int .i64, .int .i64, .str, .int .i64]) a4) :
    Calls Try.prog 3 #[.int .i64 a0, a1, a2, a3, a4] w fun e w' => e = .returned (.bool true) ∧ Below w.heap.size w w' := by
  obtain ⟨A1, c1, xs, rfl, hx, hc1, hm1, hn1, r1⟩ := rows_full w 5 6 _ XOp.enc (fun _ => rfl) dec_op w1
  obtain ⟨A2, c2, ys, rfl, hy, hc2, hm2, hn2, r2⟩ := rows_full w 5 6 _ XAns.enc (fun _ => rfl) dec_ans w2
  obtain ⟨A3, c3, xs2, rfl, hx2, hc3, hm3, hn3, r3⟩ := rows_full w 5 6 _ XOp.enc (fun _ => rfl) dec_op w3
  obtain ⟨A4, c4, ys2, rfl, hy2, hc4, hm4, hn4, r4⟩ := rows_full w 5 6 _ XAns.enc (fun _ => rfl) dec_ans w4
  exact Proj.views_any w A1 A2 A3 A4 c1 c2 c3 c4 a0 xs xs2 ys ys2 r1 r2 r3 r4 hx hy hx2 hy2 hc1 hc3 hm1 hm3 hn1 hn3

set_option maxRecDepth 100000 in
theorem lifted (os : Os) (started : os.Started) (H : Type) (enc : TypeId × Value → H) :
    ReturnsInHanded {} Try.checked os 3 .any (Rows.projectViewsSpec.pre6 enc Try.prog Try.f3 Rows.projectViewsRow.domain false) (Rows.projectViewsSpec.post enc Try.prog Try.f3 false true false false) := by
  refine returnsInHanded_of_change (C := Try.checked) own started (by kernel_rfl) Try.func3
    (ChangeSpec.witness6 (enc := enc) (C := Try.checked) false ⟨#[], #[.int .i64 0, .slice none 0 0, .slice none 0 0, .slice none 0 0, .slice none 0 0], []⟩ 8 (by kernel_rfl) (by kernel_rfl) (by kernel_rfl) (by kernel_rfl)) ?_
  intro W base args ds gs before hval0 hW hcnd _
  have hval : ∀ (j : Nat) t v, Try.f3.params[j]? = some t → args[j]? = some v → Value.okWide Try.prog W .any base t v := hval0
  have hW' := hW
  obtain ⟨p, q, hA0, hV, rfl, hfz, hnd⟩ := hW
  have hA : DataW.TrodAll enc Try.prog W 0 (fun _ => true) true Try.f3.params.toList args.toList ds p := hA0
  rw [Try.params3] at hA hval
  obtain ⟨v0, vs0, d0, ds0, p0, q0, hargs, rfl, rfl, h0, r0⟩ := trodAll_cons hA
  obtain ⟨v1, vs1, d1, ds1, p1, q1, rfl, rfl, rfl, h1, r1⟩ := trodAll_cons r0
  obtain ⟨v2, vs2, d2, ds2, p2, q2, rfl, rfl, rfl, h2, r2⟩ := trodAll_cons r1
  obtain ⟨v3, vs3, d3, ds3, p3, q3, rfl, rfl, rfl, h3, r3⟩ := trodAll_cons r2
  obtain ⟨v4, vs4, d4, ds4, p4, q4, rfl, rfl, rfl, h4, r4⟩ := trodAll_cons r3
  obtain ⟨rfl, rfl, rfl⟩ := trodAll_nil r4
  obtain rfl : args = #[v0, v1, v2, v3, v4] := by cases args; simp_all
  obtain ⟨rfl, rfl⟩ := trodVars_none hV
  obtain ⟨a0, rfl, rfl, rfl, w0⟩ := open_int Try.underlying3 (hval 0 3 v0 rfl rfl) h0
  have k1 := h1
  have lt1 : ∀ x ∈ p1, x.block < W.heap.size := by obtain ⟨m, hm⟩ := k1; exact DataW.trod_lt m _ _ _ hm
  have w1 := open_rows Try.underlying22 (hval 1 22 v1 rfl rfl) h1 6 flat1
  have k2 := h2
  have lt2 : ∀ x ∈ p2, x.block < W.heap.size := by obtain ⟨m, hm⟩ := k2; exact DataW.trod_lt m _ _ _ hm
  have w2 := open_rows Try.underlying23 (hval 2 23 v2 rfl rfl) h2 6 flat2
  have k3 := h3
  have lt3 : ∀ x ∈ p3, x.block < W.heap.size := by obtain ⟨m, hm⟩ := k3; exact DataW.trod_lt m _ _ _ hm
  have w3 := open_rows Try.underlying22 (hval 3 22 v3 rfl rfl) h3 6 flat3
  have k4 := h4
  have lt4 : ∀ x ∈ p4, x.block < W.heap.size := by obtain ⟨m, hm⟩ := k4; exact DataW.trod_lt m _ _ _ hm
  have w4 := open_rows Try.underlying23 (hval 4 23 v4 rfl rfl) h4 6 flat4
  clear hA0 hval0
  refine (walk a0 v1 v2 v3 v4 W w0 w1 w2 w3 w4).mono fun e W' ⟨he, bel⟩ => ?_
  subst he
  exact ⟨_, rfl, _, _, _, [], _, [], hW', trodAll_mk1 (shut_bool Try.underlying4 _), (trodAll_cons_mk (shut_int Try.underlying3 w0) (trodAll_cons_mk (Below.trod laidOut (by kernel_rfl) (of_decide_eq_true (by kernel_rfl)) k1 bel lt1) (trodAll_cons_mk (Below.trod laidOut (by kernel_rfl) (of_decide_eq_true (by kernel_rfl)) k2 bel lt2) (trodAll_cons_mk (Below.trod laidOut (by kernel_rfl) (of_decide_eq_true (by kernel_rfl)) k3 bel lt3) (trodAll_cons_mk (Below.trod laidOut (by kernel_rfl) (of_decide_eq_true (by kernel_rfl)) k4 bel lt4) trodAll_mk0))))), rfl, bel.frame _, fun h => by cases h⟩

theorem over : Rows.projectViewsRow.holds Try.pinned (OpenSpec.ofChange Rows.projectViewsSpec) :=
  OpenClaim.holds_of_wide 3 Try.f3 rfl rfl rfl rfl rfl rfl rfl ⟨rfl, rfl, rfl, rfl, rfl⟩ rfl rfl rfl rfl rfl (by kernel_rfl) Try.func3 (by kernel_rfl)
    (of_decide_eq_true (by kernel_rfl)) (by unfold Func.isWrapper; first | (rw [if_pos (by decide +kernel)]; kernel_rfl) | (rw [if_neg (by decide +kernel)]; exact ⟨rfl, rfl⟩))
    (fun os started H enc _ => lifted os started H enc)

theorem proved : Rows.ProjectViewsSaid := over
#print axioms proved
end Go.Proofs.Ytmlolkjgniodpaa.projectViews
