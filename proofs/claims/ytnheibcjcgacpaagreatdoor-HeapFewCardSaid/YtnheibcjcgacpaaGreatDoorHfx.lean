/- HeapFew: both cases; its arguments. -/
import Derived.Test.YtnheibcjcgacpaaGreatDoorHfw
import Derived.Test.YtnheibcjcgacpaaGreatDoorSzs
import Derived.Test.YtnheibcjcgacpaaGreatDoorHag
set_option linter.unusedVariables false
set_option linter.unusedSimpArgs false
namespace Go.Proofs.YtnheibcjcgacpaaGreatDoor
open Go.RowKit Go.ChangeMaps
namespace Hm
theorem few_any (w : World) (P C q : Int) (A0 A1 A : Option Addr) (n0 c0 n1 c1 cap : Nat) (W0 W1 : List Int) (xs : List HOp) (hT : Sh.Tab w) (hA0 : A0 = none → n0 = 0 ∧ c0 = 0) (hl0 : W0.length = n0) (hr0 : Rd w A0 (ints W0)) (hA1 : A1 = none → n1 = 0 ∧ c1 = 0) (hl1 : W1.length = n1) (hr1 : Rd w A1 (ints W1)) (hn0 : n0 ≤ 17592186044416) (hn1 : n1 ≤ 17592186044416)
    (hr : Rd w A (hops xs)) (hl : xs.length ≤ maxLen) (hok : ∀ x ∈ xs, x.Ok w) (hm : ∀ x ∈ xs, x.m ≤ 17592186044416) :
    Calls Tryz.prog 3 #[.agg #[.int .i64 P, .int .i64 C, .slice A0 n0 c0, .slice A1 n1 c1], .slice A xs.length cap, .int .i64 q] w (FewR w) := by
  by_cases h : Co.Cfg P C
  · have h' := h
    unfold Co.Cfg at h'
    obtain ⟨P', rfl⟩ : ∃ k : Nat, P = k := ⟨P.toNat, by omega⟩
    obtain ⟨C', rfl⟩ : ∃ k : Nat, C = k := ⟨C.toNat, by omega⟩
    exact few_good w P' C' q A0 A1 A n0 c0 n1 c1 cap W0 W1 xs xs.length h hT hA0 hl0 hr0 hA1 hl1 hr1 hn0 hn1 rfl hr hl hok (Hid.of hm)
  · exact few_bad w P C q A0 A1 A n0 c0 n1 c1 xs.length cap hT h
end Hm
end Go.Proofs.YtnheibcjcgacpaaGreatDoor
