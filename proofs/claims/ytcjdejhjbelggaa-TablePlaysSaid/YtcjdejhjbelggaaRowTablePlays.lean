/- The statement TablePlays: for every input the call returns true, and each argument reads behind it as it did. No condition. -/
import Derived.Test.YtcjdejhjbelggaaRows
import Derived.WalkKit
import Derived.ProofKit
import Derived.OpenShut
import Derived.ShutString
import Derived.ChangeOld
import Derived.Below
import Derived.Test.YtcjdejhjbelggaaArgs
import Derived.Test.YtcjdejhjbelggaaRTabI
import Derived.Test.YtcjdejhjbelggaaArgs
set_option linter.unusedVariables false
set_option linter.unusedSimpArgs false
namespace Go.Proofs.Ytcjdejhjbelggaa.tablePlays
open Go.ChangeShapes Go.WideShapes Go.ChangeAt Go.RowKit
open Go.ChangeMaps (open_string shut_string)

theorem own : ownKnob Try.prog.godebug = none := by kernel_rfl
theorem laidOut : laidOutB Try.prog = true := by kernel_rfl
theorem flat0 : flat Try.prog 6 22 = some [.sl 3 [.int .i64, .int .i64, .int .i64]] := by kernel_rfl

theorem walk (a0 : Value) (w : World) (w0 : Leaf.ok w 6 (.sl 3 [.int .i64, .int .i64, .int .i64]) a0) :
    Calls Try.prog 3 #[a0] w fun e w' => e = .returned (.bool true) ∧ Below w.heap.size w w' := by
  obtain ⟨A, cap, xs, rfl, hx, _, hr⟩ := rows_list w 5 3 [.int .i64, .int .i64, .int .i64] Tab.TOp.enc (fun _ => True) (fun _ => rfl) (fun cs h => by
    obtain ⟨b1, bs1, rfl, h1, g1⟩ := h.inv_cons
    obtain ⟨b2, bs2, rfl, h2, g2⟩ := g1.inv_cons
    obtain ⟨b3, bs3, rfl, h3, g3⟩ := g2.inv_cons
    obtain rfl := g3.inv_nil
    obtain ⟨x1, rfl, _⟩ := h1
    obtain ⟨x2, rfl, _⟩ := h2
    obtain ⟨x3, rfl, _⟩ := h3
    exact ⟨⟨x1, x2, x3⟩, trivial, rfl⟩) w0
  exact RTab.plays_any w A cap xs hr hx

set_option maxRecDepth 100000 in
theorem lifted (os : Os) (started : os.Started) (H : Type) (enc : TypeId × Value → H) :
    ReturnsInHanded {} Try.checked os 3 .any (Rows.tablePlaysSpec.pre6 enc Try.prog Try.f3 Rows.tablePlaysRow.domain false) (Rows.tablePlaysSpec.post enc Try.prog Try.f3 false true false false) := by
  refine returnsInHanded_of_change (C := Try.checked) own started (by kernel_rfl) Try.func3
    (ChangeSpec.witness6 (enc := enc) (C := Try.checked) false ⟨#[], #[.slice none 0 0], []⟩ 8 (by kernel_rfl) (by kernel_rfl) (by kernel_rfl) (by kernel_rfl)) ?_
  intro W base args ds gs before hval0 hW hcnd _
  have hval : ∀ (j : Nat) t v, Try.f3.params[j]? = some t → args[j]? = some v → Value.okWide Try.prog W .any base t v := hval0
  have hW' := hW
  obtain ⟨p, q, hA0, hV, rfl, hfz, hnd⟩ := hW
  have hA : DataW.TrodAll enc Try.prog W 0 (fun _ => true) true Try.f3.params.toList args.toList ds p := hA0
  rw [Try.params3] at hA hval
  obtain ⟨v0, vs0, d0, ds0, p0, q0, hargs, rfl, rfl, h0, r0⟩ := trodAll_cons hA
  obtain ⟨rfl, rfl, rfl⟩ := trodAll_nil r0
  obtain rfl : args = #[v0] := by cases args; simp_all
  obtain ⟨rfl, rfl⟩ := trodVars_none hV
  have k0 := h0
  have lt0 : ∀ x ∈ p0, x.block < W.heap.size := by obtain ⟨m, hm⟩ := k0; exact DataW.trod_lt m _ _ _ hm
  have w0 := open_rows Try.underlying22 (hval 0 22 v0 rfl rfl) h0 6 flat0
  clear hA0 hval0
  refine (walk v0 W w0).mono fun e W' ⟨he, bel⟩ => ?_
  subst he
  exact ⟨_, rfl, _, _, _, [], _, [], hW', trodAll_mk1 (shut_bool Try.underlying4 _), (trodAll_cons_mk (Below.trod laidOut (by kernel_rfl) (of_decide_eq_true (by kernel_rfl)) k0 bel lt0) trodAll_mk0), rfl, bel.frame _, fun h => by cases h⟩

theorem over : Rows.tablePlaysRow.holds Try.pinned (OpenSpec.ofChange Rows.tablePlaysSpec) :=
  OpenClaim.holds_of_wide 3 Try.f3 rfl rfl rfl rfl rfl rfl rfl ⟨rfl, rfl, rfl, rfl, rfl⟩ rfl rfl rfl rfl rfl (by kernel_rfl) Try.func3 (by kernel_rfl)
    (of_decide_eq_true (by kernel_rfl)) (by unfold Func.isWrapper; first | (rw [if_pos (by decide +kernel)]; kernel_rfl) | (rw [if_neg (by decide +kernel)]; exact ⟨rfl, rfl⟩))
    (fun os started H enc _ => lifted os started H enc)

theorem proved : Rows.TablePlaysSaid := over
#print axioms proved
end Go.Proofs.Ytcjdejhjbelggaa.tablePlays
