/- The op package's walk: Check. -/
import Derived.Test.YtagmkkddjdlncaaDoorRec
import Derived.Test.YtagmkkddjdlncaaDoorClA
set_option linter.unusedVariables false
set_option linter.unusedSimpArgs false
namespace Go.Proofs.YtagmkkddjdlncaaDoor
open Go.RowKit Go.ChangeMaps
namespace Op1
/-- Whether an operation may be: 0, else 1. -/
def chk (o : XOp) : Int := if o.kind < 1 ∨ 11 < o.kind ∨ o.tenant < 0 ∨ 8 ≤ o.tenant then 1 else if 8192 < o.data.size ∨ (0 < o.data.size ∧ o.kind ≠ 10) then 1 else 0
set_option maxRecDepth 100000 in
set_option maxHeartbeats 1000000 in
theorem check_any (w : World) (o : XOp) (hd : o.data.size ≤ maxLen) : Calls Tryd.prog 15 #[.agg o.enc.toArray] w fun e w' => e = .returned (.int .i64 (chk o)) ∧ Keeps (fun _ => False) w w' := by
  obtain ⟨kind, tenant, n, m, handle, data⟩ := o
  dsimp only at hd
  unfold maxLen at hd
  obtain ⟨A, hA⟩ : ∃ A, w.heap.size = A := ⟨_, rfl⟩
  obtain ⟨w1, hw1⟩ : ∃ w1, w.alloc (.cells #[.int .i64 kind, .int .i64 tenant, .int .i64 n, .int .i64 m, .int .u64 handle, .string data] 34) = w1 := ⟨_, rfl⟩
  have k1 : Keeps (fun _ => False) w w1 := by rw [← hw1]; exact (Keeps.refl _ _).alloc _
  have ha1 : w1.heap[A]? = some (.cells #[.int .i64 kind, .int .i64 tenant, .int .i64 n, .int .i64 m, .int .u64 handle, .string data] 34 (0, 0)) := by rw [← hw1, ← hA]; exact alloc_new _ _
  have c0 := cell_of (v := .int .i64 kind) ha1 0 rfl
  have c1 := cell_of (v := .int .i64 tenant) ha1 1 rfl
  have c5 := cell_of (v := .string data) ha1 5 rfl
  have HK := Hid.of k1
  unfold XOp.enc
  dsimp only
  obtain ⟨z, hz⟩ : ∃ z, data.size = z := ⟨_, rfl⟩
  have hcase : kind < 1 ∨ (1 ≤ kind ∧ 11 < kind) ∨ (1 ≤ kind ∧ kind ≤ 11 ∧ tenant < 0) ∨ (1 ≤ kind ∧ kind ≤ 11 ∧ 0 ≤ tenant ∧ 8 ≤ tenant) ∨ (1 ≤ kind ∧ kind ≤ 11 ∧ 0 ≤ tenant ∧ tenant < 8 ∧ 8192 < z) ∨
    (1 ≤ kind ∧ kind ≤ 11 ∧ 0 ≤ tenant ∧ tenant < 8 ∧ z ≤ 8192 ∧ z = 0) ∨ (1 ≤ kind ∧ kind ≤ 11 ∧ 0 ≤ tenant ∧ tenant < 8 ∧ z ≤ 8192 ∧ 0 < z ∧ kind = 10) ∨ (1 ≤ kind ∧ kind ≤ 11 ∧ 0 ≤ tenant ∧ tenant < 8 ∧ z ≤ 8192 ∧ 0 < z ∧ kind ≠ 10) := by omega
  obtain ⟨R, hR⟩ : ∃ R, chk ⟨kind, tenant, n, m, handle, data⟩ = R := ⟨_, rfl⟩
  rw [hR]
  unfold chk at hR
  dsimp only at hR
  rw [hz] at hR hd
  clear k1 ha1
  rcases hcase with h1 | ⟨h1, h2⟩ | ⟨h1, h2, h3⟩ | ⟨h1, h2, h3, h4⟩ | ⟨h1, h2, h3, h4, h5⟩ | ⟨h1, h2, h3, h4, h5, h6⟩ | ⟨h1, h2, h3, h4, h5, h6, h7⟩ | ⟨h1, h2, h3, h4, h5, h6, h7⟩
  case inr.inr.inr.inr.inr.inr.inr =>
    rw [if_neg (by omega), if_pos (by omega)] at hR
    subst hR
    have e1 : decide (8192 < z) = false := by simp; omega
    have e2 : decide (0 < z) = true := by simp; omega
    have e3 : (kind != 10) = true := by simp; omega
    clear h7
    go_enter Tryd.func15, Tryd.ntmps15
    go_wp2
    go_ret
    exact ⟨rfl, HK.out⟩
  case inr.inr.inr.inr.inr.inr.inl =>
    rw [if_neg (by omega), if_neg (by omega)] at hR
    subst hR
    have e1 : decide (8192 < z) = false := by simp; omega
    have e2 : decide (0 < z) = true := by simp; omega
    have e3 : (kind != 10) = false := by simp; omega
    clear h7
    go_enter Tryd.func15, Tryd.ntmps15
    go_wp2
    go_ret
    exact ⟨rfl, HK.out⟩
  case inr.inr.inr.inr.inr.inl =>
    rw [if_neg (by omega), if_neg (by omega)] at hR
    subst hR
    have e1 : decide (8192 < z) = false := by simp; omega
    have e2 : decide (0 < z) = false := by simp; omega
    clear h6
    go_enter Tryd.func15, Tryd.ntmps15
    go_wp2
    go_ret
    exact ⟨rfl, HK.out⟩
  case inr.inr.inr.inr.inl =>
    rw [if_neg (by omega), if_pos (by omega)] at hR
    subst hR
    have e1 : decide (8192 < z) = true := by simp; omega
    go_enter Tryd.func15, Tryd.ntmps15
    go_wp2
    go_ret
    exact ⟨rfl, HK.out⟩
  all_goals
    rw [if_pos (by omega)] at hR
    subst hR
    go_enter Tryd.func15, Tryd.ntmps15
    go_wp2
    go_ret
    exact ⟨rfl, HK.out⟩
end Op1
end Go.Proofs.YtagmkkddjdlncaaDoor
