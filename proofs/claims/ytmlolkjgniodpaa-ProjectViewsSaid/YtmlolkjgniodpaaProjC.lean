/- op.Check, op.Admin, garthref19.Right; lists of operations compared. -/
import Derived.Test.YtmlolkjgniodpaaProjP
set_option linter.unusedVariables false
set_option linter.unusedSimpArgs false
namespace Go.Proofs.Ytmlolkjgniodpaa
open Go.RowKit Go.ChangeMaps
attribute [-go_sem] run_neq_struct run_eql_struct run_equalIn_agg
namespace Proj
set_option maxRecDepth 100000 in
set_option maxHeartbeats 2000000 in
theorem check_any (w : World) (k t n m hh : Int) (d : ByteArray) :
    Calls Try.prog 68 #[.agg #[.int .i64 k, .int .i64 t, .int .i64 n, .int .i64 m, .int .u64 hh, .string d]] w fun e w' => e = .returned (.int .i64 (if right ⟨k, t, n, m, hh, d⟩ then 0 else 1)) ∧ Keeps (fun _ => False) w w' := by
  obtain ⟨w1, hw1⟩ : ∃ w1, w.alloc (.cells #[.int .i64 k, .int .i64 t, .int .i64 n, .int .i64 m, .int .u64 hh, .string d] 30) = w1 := ⟨_, rfl⟩
  have k1 : Keeps (fun _ => False) w w1 := by rw [← hw1]; exact (Keeps.refl _ _).alloc _
  have hob : w1.heap[w.heap.size]? = some (.cells #[.int .i64 k, .int .i64 t, .int .i64 n, .int .i64 m, .int .u64 hh, .string d] 30 (0, 0)) := by rw [← hw1]; exact alloc_new _ _
  have d0 := cell_of hob 0 rfl
  have d1 := cell_of hob 1 rfl
  have d5 := cell_of hob 5 rfl
  obtain ⟨s, hs⟩ : ∃ s, d.size = s := ⟨_, rfl⟩
  have HK := Hid.of k1
  clear k1 hob
  have hsp : k < 1 ∨ (1 ≤ k ∧ 11 < k) ∨ (1 ≤ k ∧ k ≤ 11 ∧ t < 0) ∨ (1 ≤ k ∧ k ≤ 11 ∧ 0 ≤ t ∧ 8 ≤ t) ∨ (1 ≤ k ∧ k ≤ 11 ∧ 0 ≤ t ∧ t < 8 ∧ 8192 < s) ∨ (1 ≤ k ∧ k ≤ 11 ∧ 0 ≤ t ∧ t < 8 ∧ s ≤ 8192 ∧ 0 < s ∧ k ≠ 10) ∨ (1 ≤ k ∧ k ≤ 11 ∧ 0 ≤ t ∧ t < 8 ∧ s ≤ 8192 ∧ 0 < s ∧ k = 10) ∨ (1 ≤ k ∧ k ≤ 11 ∧ 0 ≤ t ∧ t < 8 ∧ s = 0) := by omega
  rcases hsp with h | h | h | h | h | h | h | h
  case inr.inr.inr.inr.inr.inr.inl =>
    have hr : right ⟨k, t, n, m, hh, d⟩ = true := by simp only [right, hs, decide_eq_true_eq]; omega
    rw [hr]
    obtain ⟨h1, h2, h3, h4, h5, h6, h7⟩ := h
    have e : (k != 10) = false := by simpa using h7
    clear h7 hr
    go_enter Try.func68, Try.ntmps68
    go_wp2
    go_ret
    exact ⟨rfl, HK.out⟩
  case inr.inr.inr.inr.inr.inr.inr =>
    have hr : right ⟨k, t, n, m, hh, d⟩ = true := by simp only [right, hs, decide_eq_true_eq]; omega
    rw [hr]
    obtain ⟨h1, h2, h3, h4, h5⟩ := h
    clear hr
    go_enter Try.func68, Try.ntmps68
    go_wp2
    go_ret
    exact ⟨rfl, HK.out⟩
  case inr.inr.inr.inr.inr.inl =>
    have hr : right ⟨k, t, n, m, hh, d⟩ = false := by simp only [right, hs, decide_eq_false_iff_not]; omega
    rw [hr]
    obtain ⟨h1, h2, h3, h4, h5, h6, h7⟩ := h
    have e : (k != 10) = true := by simpa using h7
    clear h7 hr
    go_enter Try.func68, Try.ntmps68
    go_wp2
    go_ret
    exact ⟨rfl, HK.out⟩
  all_goals
    have hr : right ⟨k, t, n, m, hh, d⟩ = false := by simp only [right, hs, decide_eq_false_iff_not]; omega
    rw [hr]
    first | obtain ⟨h1, h2, h3, h4, h5⟩ := h | obtain ⟨h1, h2, h3, h4⟩ := h | obtain ⟨h1, h2, h3⟩ := h | obtain ⟨h1, h2⟩ := h | skip
    clear hr
    go_enter Try.func68, Try.ntmps68
    go_wp2
    go_ret
    exact ⟨rfl, HK.out⟩
end Proj
end Go.Proofs.Ytmlolkjgniodpaa
