/- A given row of steps, as the statements hand it over. -/
import Derived.Test.YtmlolkjgniodpaaScsE
import Derived.Test.YtmlolkjgniodpaaArgs
set_option linter.unusedVariables false
set_option linter.unusedSimpArgs false
namespace Go.Proofs.Ytmlolkjgniodpaa
open Go.RowKit Go.ChangeMaps
namespace Scr
theorem i64_of {x : Int} (h : (Lit.int .i64 x).wf = true) : -9223372036854775808 ≤ x ∧ x ≤ 9223372036854775807 := by
  simp only [Lit.wf, Bool.and_eq_true, decide_eq_true_eq] at h
  have m1 : IntKind.i64.min = -9223372036854775808 := rfl
  have m2 : IntKind.i64.max = 9223372036854775807 := rfl
  omega
theorem u64_of {x : Int} (h : (Lit.int .u64 x).wf = true) : 0 ≤ x ∧ x < 18446744073709551616 := by
  simp only [Lit.wf, Bool.and_eq_true, decide_eq_true_eq] at h
  have m1 : IntKind.u64.min = 0 := rfl
  have m2 : IntKind.u64.max = 18446744073709551615 := rfl
  omega
theorem dec_stp {w : World} {n : Nat} (cs : List Value) (h : All2 (Leaf.ok w (n + 1)) [.int .i64, .int .i64, .int .i64, .int .i64, .int .u64, .str, .int .i64] cs) : ∃ x : Stp, Num x ∧ cs = x.enc := by
  obtain ⟨b1, bs1, rfl, h1, g1⟩ := h.inv_cons
  obtain ⟨b2, bs2, rfl, h2, g2⟩ := g1.inv_cons
  obtain ⟨b3, bs3, rfl, h3, g3⟩ := g2.inv_cons
  obtain ⟨b4, bs4, rfl, h4, g4⟩ := g3.inv_cons
  obtain ⟨b5, bs5, rfl, h5, g5⟩ := g4.inv_cons
  obtain ⟨b6, bs6, rfl, h6, g6⟩ := g5.inv_cons
  obtain ⟨b7, bs7, rfl, h7, g7⟩ := g6.inv_cons
  obtain rfl := g7.inv_nil
  obtain ⟨x1, rfl, _⟩ := h1
  obtain ⟨x2, rfl, _⟩ := h2
  obtain ⟨x3, rfl, q3⟩ := h3
  obtain ⟨x4, rfl, q4⟩ := h4
  obtain ⟨x5, rfl, q5⟩ := h5
  obtain ⟨x6, rfl, _⟩ := h6
  obtain ⟨x7, rfl, _⟩ := h7
  obtain ⟨l, rfl⟩ : ∃ l, x6 = bs l := ⟨_, bs_self x6⟩
  obtain ⟨u1, u2⟩ := u64_of q5
  exact ⟨⟨x1, x2, x3, x4, x5, l, x7⟩, ⟨u1, u2, i64_of q3, i64_of q4⟩, rfl⟩
theorem stps_arg {w : World} {n : Nat} {v : Value} (h : Leaf.ok w (n + 2) (.sl 7 [.int .i64, .int .i64, .int .i64, .int .i64, .int .u64, .str, .int .i64]) v) :
    ∃ A cap xs, v = .slice A (xs : List Stp).length cap ∧ xs.length ≤ maxLen ∧ (A = none → xs.length = 0 ∧ cap = 0) ∧ (∀ x ∈ xs, Num x) ∧ Rd w A (stps xs) := by
  obtain ⟨A, cap, xs, hv, h1, h2, h3⟩ := rows_list w (n + 1) 7 _ Stp.enc Num (fun _ => rfl) dec_stp h
  obtain ⟨A', len', cap', hv', hlc, hcm, hn, _⟩ := h
  rw [hv] at hv'
  injection hv' with e1 e2 e3
  subst e1 e2 e3
  exact ⟨A, cap, xs, hv, h1, hn, h2, h3⟩
end Scr
end Go.Proofs.Ytmlolkjgniodpaa
