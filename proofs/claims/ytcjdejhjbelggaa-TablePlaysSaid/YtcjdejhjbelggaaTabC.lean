/- The table package's walks, third part: Pieces, with place.At and place.Within; garthref01.Same. -/
import Derived.Test.YtcjdejhjbelggaaTabB
import Derived.Test.YtcjdejhjbelggaaFloat
import Derived.Test.YtcjdejhjbelggaaSame
import Derived.Laws.Cover3
set_option linter.unusedVariables false
set_option linter.unusedSimpArgs false
namespace Go.Proofs.Ytcjdejhjbelggaa
open Go.RowKit Go.ChangeMaps

theorem run_fl_int (w : World) (p : Int) (h : p.natAbs < 2 ^ 53) : (convert 59 3 (.float .f64 (fl p))).run Try.prog w = .ok (.int .i64 p) w := by
  have e1 := toInt_fl p h
  have e2 : IntKind.i64.min ≤ p ∧ p ≤ IntKind.i64.max := by
    have a1 : IntKind.i64.min = -9223372036854775808 := rfl
    have a2 : IntKind.i64.max = 9223372036854775807 := rfl
    omega
  simp [convert, run_underlying Try.underlying59, run_underlying Try.underlying3, Conv.floatToInt, e1, e2]
  intro h; omega

namespace Tab
theorem tmod_eq (a : Int) (h : 0 ≤ a) : a.tmod 512 = a % 512 := Int.tmod_eq_emod_of_nonneg h
theorem tdiv_eq (a : Int) (h : 0 ≤ a) : a.tdiv 512 = a / 512 := Int.tdiv_eq_ediv_of_nonneg h
set_option maxRecDepth 100000 in
set_option maxHeartbeats 400000 in
theorem at_any (w : World) (a : Int) (h1 : 131072 ≤ a) (h2 : a < 3276800) :
    Calls Try.prog 27 #[.int .i64 a] w fun e w' => e = .returned (.tuple #[.complex .f64 (fl (a / 512)) (fl (a % 512)), .int .i64 0]) ∧ w = w' := by
  have e1 := tmod_eq a (by omega)
  have e2 := tdiv_eq a (by omega)
  have g1 : 0 ≤ a := by omega
  go_enter Try.func27, Try.ntmps27
  go_wp2
  go_ret2
  rw [← e1, ← e2]
  exact ⟨rfl, rfl⟩
def within (a n : Int) : Bool := decide (0 ≤ n ∧ 131072 ≤ a ∧ a + n ≤ 3276800)
set_option maxRecDepth 100000 in
set_option maxHeartbeats 400000 in
theorem within_any (w : World) (a n : Int) :
    Calls Try.prog 26 #[.int .i64 a, .int .i64 n] w fun e w' => e = .returned (.bool (within a n)) ∧ w = w' := by
  unfold within
  have hsp : n < 0 ∨ (0 ≤ n ∧ a < 131072) ∨ (0 ≤ n ∧ 131072 ≤ a ∧ 3276800 < a) ∨ (0 ≤ n ∧ 131072 ≤ a ∧ a ≤ 3276800 ∧ 3276800 - a < n) ∨ (0 ≤ n ∧ 131072 ≤ a ∧ a ≤ 3276800 ∧ n ≤ 3276800 - a) := by omega
  rcases hsp with h1 | ⟨h1, h2⟩ | ⟨h1, h2, h3⟩ | ⟨h1, h2, h3, h4⟩ | ⟨h1, h2, h3, h4⟩
  case inr.inr.inr.inr =>
    have hd : decide (0 ≤ n ∧ 131072 ≤ a ∧ a + n ≤ 3276800) = true := by simp; omega
    rw [hd]
    go_enter Try.func26, Try.ntmps26
    go_wp2
    go_ret
    exact ⟨rfl, rfl⟩
  all_goals
    have hd : decide (0 ≤ n ∧ 131072 ≤ a ∧ a + n ≤ 3276800) = false := by simp; omega
    have hd' : decide (n ≤ 3276800 - a) = decide (n ≤ 3276800 - a) := rfl
    rw [hd]
    go_enter Try.func26, Try.ntmps26
    go_wp2
    go_ret
    first | exact ⟨rfl, rfl⟩ | exact ⟨congrArg (fun b => Ending.returned (.bool b)) (by simp; omega), rfl⟩
end Tab
end Go.Proofs.Ytcjdejhjbelggaa
