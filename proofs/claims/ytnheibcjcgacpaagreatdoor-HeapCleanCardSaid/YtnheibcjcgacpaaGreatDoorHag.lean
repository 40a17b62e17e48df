/- garthlaw17's arguments, with their bounds. -/
import Derived.Test.YtnheibcjcgacpaaGreatDoorHop
import Derived.Test.YtnheibcjcgacpaaGreatDoorHek
import Derived.Test.YtnheibcjcgacpaaGreatDoorSzs
set_option linter.unusedVariables false
set_option linter.unusedSimpArgs false
namespace Go.Proofs.YtnheibcjcgacpaaGreatDoor
open Go.RowKit Go.ChangeMaps
namespace Hm
theorem dec_int1Z {w : World} {n : Nat} (cs : List Value) (h : All2 (Leaf.okZ w (n + 1)) [.int .i64] cs) : ∃ x : Int, True ∧ cs = [Value.int .i64 x] := by
  obtain ⟨b1, bs1, rfl, h1, g1⟩ := h.inv_cons
  obtain rfl := g1.inv_nil
  obtain ⟨x1, rfl, _⟩ := h1
  exact ⟨x1, trivial, rfl⟩
/-- An argument that is a row of ints, with its bound. -/
theorem ints_argZ {w : World} {n : Nat} {v : Value} (h : Leaf.okZ w (n + 2) (.sl 1 [.int .i64]) v) :
    ∃ A m cap W, v = .slice A m cap ∧ (A = none → m = 0 ∧ cap = 0) ∧ W.length = m ∧ Rd w A (ints W) ∧ m ≤ maxLen ∧ m ≤ 17592186044416 := by
  obtain ⟨A, cap, xs, hv, h1, hM, hA, h2, h3⟩ := rows_listZ w (n + 1) 1 _ (fun x : Int => [Value.int .i64 x]) (fun _ => True) (fun _ => rfl) dec_int1Z h
  rw [He.flat_ints] at h3
  exact ⟨A, xs.length, cap, xs, hv, hA, rfl, h3, h1, hM⟩
theorem dec_hopZ {w : World} {n : Nat} (cs : List Value) (h : All2 (Leaf.okZ w (n + 2)) [.int .i64, .int .i64, .bool, .sl 1 [.int .i64]] cs) : ∃ x : HOp, (x.Ok w ∧ x.m ≤ 17592186044416) ∧ cs = x.enc := by
  obtain ⟨b1, bs1, rfl, h1, g1⟩ := h.inv_cons
  obtain ⟨b2, bs2, rfl, h2, g2⟩ := g1.inv_cons
  obtain ⟨b3, bs3, rfl, h3, g3⟩ := g2.inv_cons
  obtain ⟨b4, bs4, rfl, h4, g4⟩ := g3.inv_cons
  obtain rfl := g4.inv_nil
  obtain ⟨x1, rfl, q1⟩ := h1
  obtain ⟨x2, rfl, q2⟩ := h2
  obtain ⟨x3, rfl⟩ := h3
  obtain ⟨A, m, cap, W, rfl, q4, q5, q6, q7, q8⟩ := ints_argZ h4
  exact ⟨⟨x1, x2, x3, A, m, cap, W⟩, ⟨⟨i64_of' q1, i64_of' q2, q4, q5, q6, q7⟩, q8⟩, rfl⟩
theorem hops_argZ {w : World} {n : Nat} {v : Value} (h : Leaf.okZ w (n + 3) (.sl 4 [.int .i64, .int .i64, .bool, .sl 1 [.int .i64]]) v) :
    ∃ A cap xs, v = .slice A (xs : List HOp).length cap ∧ xs.length ≤ maxLen ∧ (∀ x ∈ xs, x.Ok w ∧ x.m ≤ 17592186044416) ∧ Rd w A (hops xs) := by
  obtain ⟨A, cap, xs, hv, h1, hM, hA, h2, h3⟩ := rows_listZ w (n + 2) 4 _ HOp.enc (fun x => HOp.Ok w x ∧ x.m ≤ 17592186044416) (fun _ => rfl) dec_hopZ h
  exact ⟨A, cap, xs, hv, h1, h2, h3⟩
/-- garthlaw17's Config. -/
theorem conf_argZ {w : World} {n : Nat} {cs : List Value} (h : All2 (Leaf.okZ w (n + 2)) [.int .i64, .int .i64, .sl 1 [.int .i64], .sl 1 [.int .i64]] cs) :
    ∃ P C A0 n0 c0 W0 A1 n1 c1 W1, cs = [.int .i64 P, .int .i64 C, .slice A0 n0 c0, .slice A1 n1 c1] ∧ (A0 = none → n0 = 0 ∧ c0 = 0) ∧ W0.length = n0 ∧ Rd w A0 (ints W0) ∧ n0 ≤ 17592186044416 ∧ (A1 = none → n1 = 0 ∧ c1 = 0) ∧ W1.length = n1 ∧ Rd w A1 (ints W1) ∧ n1 ≤ 17592186044416 := by
  obtain ⟨b1, bs1, rfl, h1, g1⟩ := h.inv_cons
  obtain ⟨b2, bs2, rfl, h2, g2⟩ := g1.inv_cons
  obtain ⟨b3, bs3, rfl, h3, g3⟩ := g2.inv_cons
  obtain ⟨b4, bs4, rfl, h4, g4⟩ := g3.inv_cons
  obtain rfl := g4.inv_nil
  obtain ⟨x1, rfl, q1⟩ := h1
  obtain ⟨x2, rfl, q2⟩ := h2
  obtain ⟨A0, n0, c0, W0, rfl, a1, a2, a3, a4, a5⟩ := ints_argZ h3
  obtain ⟨A1, n1, c1, W1, rfl, d1, d2, d3, d4, d5⟩ := ints_argZ h4
  exact ⟨x1, x2, A0, n0, c0, W0, A1, n1, c1, W1, rfl, a1, a2, a3, a5, d1, d2, d3, d5⟩
end Hm
end Go.Proofs.YtnheibcjcgacpaaGreatDoor
