/- The model package's walks: at, Live. -/
import Derived.Test.YtagmkkddjdlncaaDoorMoD
set_option linter.unusedVariables false
set_option linter.unusedSimpArgs false
namespace Go.Proofs.YtagmkkddjdlncaaDoor
open Go.RowKit Go.ChangeMaps
namespace Mo
/-- A tenant's part. -/
def prt (x : Nat → Option Addr) (id : Int) : Option Addr := if 0 ≤ id ∧ id < 8 then x id.toNat else none
set_option maxRecDepth 100000 in
set_option maxHeartbeats 1000000 in
theorem at_any (w : World) (m : Nat) (P C : Int) (x : Nat → Option Addr) (s : Nat → Int) (id : Int) (H : w.heap[m]? = some (.cells (md P C (fun i => .pointer (x i)) s) 51 (0, 0))) :
    Calls Tryd.prog 23 #[.pointer (some ⟨m, 0, none⟩), .int .i64 id] w fun e w' => e = .returned (.pointer (prt x id)) ∧ w = w' := by
  unfold prt
  by_cases h : 0 ≤ id ∧ id < 8
  · rw [if_pos h]
    obtain ⟨k, rfl⟩ : ∃ k : Nat, id = k := ⟨id.toNat, by omega⟩
    rw [Int.toNat_natCast]
    have hk : k < 8 := by omega
    have hki : (k : Int) < 8 := by omega
    have d : decide (8 ≤ k) = false := by simp; omega
    have c := cell_of H (2 + k) (md_part P C _ s hk)
    clear h H
    go_enter Tryd.func23, Tryd.ntmps23
    go_wp2
    go_ret
    exact ⟨rfl, rfl⟩
  · rw [if_neg h]
    have hc : id < 0 ∨ (0 ≤ id ∧ 8 ≤ id) := by omega
    clear h
    rcases hc with h | ⟨h, h2⟩
    all_goals
      go_enter Tryd.func23, Tryd.ntmps23
      go_wp2
      go_ret
      exact ⟨rfl, rfl⟩
set_option maxRecDepth 100000 in
theorem live_any (w : World) (m : Nat) (P C : Int) (x : Nat → Option Addr) (s : Nat → Int) (id : Int) (H : w.heap[m]? = some (.cells (md P C (fun i => .pointer (x i)) s) 51 (0, 0))) :
    Calls Tryd.prog 12 #[.pointer (some ⟨m, 0, none⟩), .int .i64 id] w fun e w' => e = .returned (.bool (prt x id).isSome) ∧ w = w' := by
  have q := at_any w m P C x s id H
  cases hp : prt x id with
  | none =>
    rw [hp] at q
    clear hp H
    go_enter Tryd.func12, Tryd.ntmps12
    go_wp2_with fail
    refine q.mono ?_
    rintro e w1 ⟨rfl, rfl⟩
    clear q
    go_wp2
    go_ret
    exact ⟨rfl, rfl⟩
  | some a =>
    rw [hp] at q
    clear hp H
    go_enter Tryd.func12, Tryd.ntmps12
    go_wp2_with fail
    refine q.mono ?_
    rintro e w1 ⟨rfl, rfl⟩
    clear q
    go_wp2
    go_ret
    exact ⟨rfl, rfl⟩
end Mo
end Go.Proofs.YtagmkkddjdlncaaDoor
