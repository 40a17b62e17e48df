/- The model package's walks: may, room. -/
import Derived.Test.YtagmkkddjdlncaaDoorMoN
import Derived.Test.YtagmkkddjdlncaaDoorDem
import Derived.Test.YtagmkkddjdlncaaDoorOpB
set_option linter.unusedVariables false
set_option linter.unusedSimpArgs false
namespace Go.Proofs.YtagmkkddjdlncaaDoor
open Go.RowKit Go.ChangeMaps
namespace Mo
def may (C : Nat) (c q : Int) : Bool := decide ((1 ≤ q ∧ q ≤ 65536) ∧ 1 ≤ c ∧ c ≤ C)
set_option maxRecDepth 100000 in
set_option maxHeartbeats 1000000 in
theorem may_any (w : World) (m C : Nat) (c q : Int) (h1 : w.cell? ⟨m, 1, none⟩ = some (.int .i64 C)) :
    Calls Tryd.prog 26 #[.pointer (some ⟨m, 0, none⟩), .int .i64 c, .int .i64 q] w fun e w' => e = .returned (.bool (may C c q)) ∧ w = w' := by
  unfold may
  obtain ⟨n, hn⟩ : ∃ n : Int, (C : Int) = n := ⟨_, rfl⟩
  rw [hn] at h1 ⊢
  clear hn
  by_cases hq : 1 ≤ q ∧ q ≤ 65536
  · have q1 := Dem.of_any w q hq
    generalize fl q = f at *
    generalize fl (Dem.need q) = g at *
    have hc : c < 1 ∨ (1 ≤ c ∧ c ≤ n) ∨ (1 ≤ c ∧ n < c) := by omega
    rcases hc with h | ⟨h, h2⟩ | ⟨h, h2⟩
    · rw [show decide ((1 ≤ q ∧ q ≤ 65536) ∧ 1 ≤ c ∧ c ≤ n) = false by simp; omega]
      clear hq
      go_enter Tryd.func26, Tryd.ntmps26
      go_wp2_with fail
      refine q1.mono ?_
      rintro e w1 ⟨rfl, rfl⟩
      clear q1
      go_wp2
      go_ret
      exact ⟨rfl, rfl⟩
    · rw [show decide ((1 ≤ q ∧ q ≤ 65536) ∧ 1 ≤ c ∧ c ≤ n) = true by simp; omega]
      have t : decide (c ≤ n) = true := by simpa using h2
      clear hq
      go_enter Tryd.func26, Tryd.ntmps26
      go_wp2_with fail
      refine q1.mono ?_
      rintro e w1 ⟨rfl, rfl⟩
      clear q1
      go_wp2
      go_ret
      exact ⟨rfl, rfl⟩
    · rw [show decide ((1 ≤ q ∧ q ≤ 65536) ∧ 1 ≤ c ∧ c ≤ n) = false by simp; omega]
      have t : decide (c ≤ n) = false := by simp; omega
      clear hq
      go_enter Tryd.func26, Tryd.ntmps26
      go_wp2_with fail
      refine q1.mono ?_
      rintro e w1 ⟨rfl, rfl⟩
      clear q1
      go_wp2
      go_ret
      exact ⟨rfl, rfl⟩
  · have q1 := Dem.of_bad w q hq
    rw [show decide ((1 ≤ q ∧ q ≤ 65536) ∧ 1 ≤ c ∧ c ≤ n) = false by simp; omega]
    clear hq
    go_enter Tryd.func26, Tryd.ntmps26
    go_wp2_with fail
    refine q1.mono ?_
    rintro e w1 ⟨rfl, rfl⟩
    clear q1
    go_wp2
    go_ret
    exact ⟨rfl, rfl⟩
set_option maxRecDepth 100000 in
set_option maxHeartbeats 1000000 in
theorem room_any (w : World) (m P C c : Nat) (h0 : w.cell? ⟨m, 0, none⟩ = some (.int .i64 P)) (h1 : w.cell? ⟨m, 1, none⟩ = some (.int .i64 C)) (hP : P ≤ 4096) (hC : 1 ≤ C) (hc : c ≤ 32) :
    Calls Tryd.prog 28 #[.pointer (some ⟨m, 0, none⟩), .int .i64 c] w fun e w' => e = .returned (.int .i64 ((c * (P / C) : Nat) : Int)) ∧ Keeps (fun _ => False) w w' := by
  have ht : (P : Int).tdiv (C : Int) = ((P / C : Nat) : Int) := by rw [Int.tdiv_eq_ediv_of_nonneg (by omega)]; rfl
  have hb : P / C ≤ 4096 := Nat.le_trans (Nat.div_le_self _ _) hP
  have hm : c * (P / C) ≤ 32 * 4096 := Nat.mul_le_mul hc hb
  obtain ⟨D, hD⟩ : ∃ D, P / C = D := ⟨_, rfl⟩
  rw [hD] at ht hb hm ⊢
  obtain ⟨X, hX⟩ : ∃ X, c * D = X := ⟨_, rfl⟩
  have hX2 : (c : Int) * (D : Int) = (X : Int) := by rw [← hX]; simp
  rw [hX] at hm ⊢
  have w1 : IntKind.i64.wrap (D : Int) = (D : Int) := IntWalk.i64_in _ (by omega)
  have w2 : IntKind.i64.wrap (X : Int) = (X : Int) := IntWalk.i64_in _ (by omega)
  have c0 : ((C : Int) == 0) = false := by simp; omega
  clear hD hX hP hc
  go_enter Tryd.func28, Tryd.ntmps28
  go_wp2
  go_region
  all_goals
    go_wp2
    go_ret
    exact ⟨rfl, (Keeps.refl _ _).drew⟩
end Mo
end Go.Proofs.YtagmkkddjdlncaaDoor
