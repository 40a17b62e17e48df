/- The model package's walk: New. -/
import Derived.Test.YtagmkkddjdlncaaDoorMoA
set_option linter.unusedVariables false
set_option linter.unusedSimpArgs false
namespace Go.Proofs.YtagmkkddjdlncaaDoor
open Go.RowKit Go.ChangeMaps
namespace Mo
/-- Whether a configuration may be. -/
def cfg (P C : Int) : Prop := 1 ≤ C ∧ C ≤ 32 ∧ 1 ≤ P ∧ P ≤ 4096 ∧ P % C = 0
set_option maxRecDepth 100000 in
set_option maxHeartbeats 1000000 in
theorem new_bad (w : World) (P C : Int) (h : ¬ cfg P C) : Calls Tryd.prog 6 #[.agg #[.int .i64 P, .int .i64 C]] w fun e w' => e = .returned (.tuple #[.pointer none, .int .i64 12]) ∧ Keeps (fun _ => False) w w' := by
  obtain ⟨A, hA⟩ : ∃ A, w.heap.size = A := ⟨_, rfl⟩
  obtain ⟨w1, hw1⟩ : ∃ w1, w.alloc (.cells #[.int .i64 P, .int .i64 C] 23) = w1 := ⟨_, rfl⟩
  have k1 : Keeps (fun _ => False) w w1 := by rw [← hw1]; exact (Keeps.refl _ _).alloc _
  have ha1 : w1.heap[A]? = some (.cells #[.int .i64 P, .int .i64 C] 23 (0, 0)) := by rw [← hw1, ← hA]; exact alloc_new _ _
  have c0 := cell_of (v := .int .i64 P) ha1 0 rfl
  have c1 := cell_of (v := .int .i64 C) ha1 1 rfl
  have HK := Hid.of k1
  have hc : C < 1 ∨ (1 ≤ C ∧ 32 < C) ∨ (1 ≤ C ∧ C ≤ 32 ∧ P < 1) ∨ (1 ≤ C ∧ C ≤ 32 ∧ 1 ≤ P ∧ 4096 < P) ∨ (1 ≤ C ∧ C ≤ 32 ∧ 1 ≤ P ∧ P ≤ 4096 ∧ P % C ≠ 0) := by
    unfold cfg at h
    by_cases h1 : 1 ≤ C ∧ C ≤ 32 ∧ 1 ≤ P ∧ P ≤ 4096
    · right; right; right; right
      exact ⟨h1.1, h1.2.1, h1.2.2.1, h1.2.2.2, fun e => h ⟨h1.1, h1.2.1, h1.2.2.1, h1.2.2.2, e⟩⟩
    · omega
  clear k1 ha1 h
  rcases hc with h1 | ⟨h1, h2⟩ | ⟨h1, h2, h3⟩ | ⟨h1, h2, h3, h4⟩ | ⟨h1, h2, h3, h4, h5⟩
  case inr.inr.inr.inr =>
    have ht : P.tmod C = P % C := Int.tmod_eq_emod_of_nonneg (by omega)
    obtain ⟨r, hr⟩ : ∃ r, P % C = r := ⟨_, rfl⟩
    have hrb : 0 ≤ r ∧ r < C := by rw [← hr]; exact ⟨Int.emod_nonneg _ (by omega), Int.emod_lt_of_pos _ (by omega)⟩
    rw [hr] at ht h5
    have m0 : (C == 0) = false := by simp; omega
    have m1 : (r != 0) = true := by simpa using h5
    clear hr h5
    go_enter Tryd.func6, Tryd.ntmps6
    go_wp2
    try go_region
    all_goals
      go_wp2
      go_ret2
      first | exact ⟨rfl, HK.out⟩ | exact ⟨rfl, HK.out.drew⟩
  all_goals
    go_enter Tryd.func6, Tryd.ntmps6
    go_wp2
    try go_region
    all_goals
      go_wp2
      go_ret2
      first | exact ⟨rfl, HK.out⟩ | exact ⟨rfl, HK.out.drew⟩
/-- A model's cells: pages, colours, parts, serials. -/
def md (P C : Int) (q : Nat → Value) (s : Nat → Int) : Array Value := #[.int .i64 P, .int .i64 C, q 0, q 1, q 2, q 3, q 4, q 5, q 6, q 7, .int .i64 (s 0), .int .i64 (s 1), .int .i64 (s 2), .int .i64 (s 3), .int .i64 (s 4), .int .i64 (s 5), .int .i64 (s 6), .int .i64 (s 7)]
theorem md_ser (P C : Int) (q : Nat → Value) (s : Nat → Int) {k : Nat} (hk : k < 8) : (md P C q s)[10 + k]? = some (.int .i64 (s k)) := by
  rcases Cl.eight_cases hk with rfl | rfl | rfl | rfl | rfl | rfl | rfl | rfl <;> rfl
theorem md_part (P C : Int) (q : Nat → Value) (s : Nat → Int) {k : Nat} (hk : k < 8) : (md P C q s)[2 + k]? = some (q k) := by
  rcases Cl.eight_cases hk with rfl | rfl | rfl | rfl | rfl | rfl | rfl | rfl <;> rfl
theorem md_setser (P C : Int) (q : Nat → Value) (s : Nat → Int) (x : Int) {k : Nat} (hk : k < 8) : (md P C q s).setIfInBounds (10 + k) (.int .i64 x) = md P C q (fun j => if j = k then x else s j) := by
  rcases Cl.eight_cases hk with rfl | rfl | rfl | rfl | rfl | rfl | rfl | rfl <;> rfl
theorem md_setpart (P C : Int) (q : Nat → Value) (s : Nat → Int) (x : Value) {k : Nat} (hk : k < 8) : (md P C q s).setIfInBounds (2 + k) x = md P C (fun j => if j = k then x else q j) s := by
  rcases Cl.eight_cases hk with rfl | rfl | rfl | rfl | rfl | rfl | rfl | rfl <;> rfl
def NewR (w : World) (P C : Int) (e : Ending) (w' : World) : Prop := ∃ m, e = .returned (.tuple #[.pointer (some ⟨m, 0, none⟩), .int .i64 0]) ∧ w'.heap[m]? = some (.cells (md P C (fun _ => .pointer none) (fun _ => 1)) 51 (0, 0)) ∧ w.heap.size ≤ m ∧ Keeps (fun _ => False) w w'
set_option maxRecDepth 100000 in
set_option maxHeartbeats 1000000 in
theorem new_any (w : World) (P C : Int) (h : cfg P C) : Calls Tryd.prog 6 #[.agg #[.int .i64 P, .int .i64 C]] w (NewR w P C) := by
  obtain ⟨h1, h2, h3, h4, h5⟩ := h
  obtain ⟨A, hA⟩ : ∃ A, w.heap.size = A := ⟨_, rfl⟩
  obtain ⟨w1, hw1⟩ : ∃ w1, w.alloc (.cells #[.int .i64 P, .int .i64 C] 23) = w1 := ⟨_, rfl⟩
  have k1 : Keeps (fun _ => False) w w1 := by rw [← hw1]; exact (Keeps.refl _ _).alloc _
  have ha1 : w1.heap[A]? = some (.cells #[.int .i64 P, .int .i64 C] 23 (0, 0)) := by rw [← hw1, ← hA]; exact alloc_new _ _
  have c0 := cell_of (v := .int .i64 P) ha1 0 rfl
  have c1 := cell_of (v := .int .i64 C) ha1 1 rfl
  have HK := Hid.of (And.intro k1 ha1)
  have ht : P.tmod C = 0 := by rw [Int.tmod_eq_emod_of_nonneg (by omega)]; exact h5
  have m0 : (C == 0) = false := by simp; omega
  clear h5 k1 ha1
  go_enter Tryd.func6, Tryd.ntmps6
  go_wp2
  obtain ⟨m, hm⟩ : ∃ m, w1.heap.size = m := ⟨_, rfl⟩
  obtain ⟨w2, hw2⟩ : ∃ w2, w1.alloc (.cells #[.int .i64 P, .int .i64 C, .pointer none, .pointer none, .pointer none, .pointer none, .pointer none, .pointer none, .pointer none, .pointer none, .int .i64 0, .int .i64 0, .int .i64 0, .int .i64 0, .int .i64 0, .int .i64 0, .int .i64 0, .int .i64 0] 51) = w2 := ⟨_, rfl⟩
  rw [hm, hw2]
  have hmd : w2.heap[m]? = some (.cells (md P C (fun _ => .pointer none) (fun j => if j < 0 then 1 else 0)) 51 (0, 0)) := by rw [← hw2, ← hm]; exact alloc_new _ _
  have K2 : Keeps (fun _ => False) w w2 := by rw [← hw2]; exact HK.out.1.alloc _
  have hlo : w.heap.size ≤ m := by have := HK.out.1.size; omega
  have HL := Hid.of hlo
  clear hw2 hm c0 c1 ht hlo
  go_loopw [35] (fun i wr => ∃ k : Nat, k ≤ 8 ∧ i = .int .i64 k ∧ Hid (wr.heap[m]? = some (.cells (md P C (fun _ => .pointer none) (fun j => if j < k then 1 else 0)) 51 (0, 0)) ∧ Keeps (fun _ => False) w wr)) (fun i _ => 8 - (intOf i).toNat)
  case atStart => exact ⟨0, by omega, rfl, Hid.of (And.intro hmd K2)⟩
  case round =>
    clear hmd K2
    obtain ⟨k, hk, rfl, HH⟩ := hrel
    by_cases hk8 : k < 8
    · have hki : (k : Int) < 8 := by omega
      have c := cell_of HH.out.1 (10 + k) (md_ser P C _ _ hk8)
      have f := free_of HH.out.1 (10 + k)
      obtain ⟨w4, hw4⟩ : ∃ w4, wr.setCell ⟨m, 10 + k, none⟩ (.int .i64 1) = w4 := ⟨_, rfl⟩
      have h4 := set_of HH.out.1 (10 + k) (.int .i64 1)
      rw [md_setser P C _ _ 1 hk8, hw4] at h4
      have ef : (fun j => if j = k then (1 : Int) else if j < k then 1 else 0) = (fun j => if j < k + 1 then 1 else 0) := by
        funext j
        by_cases e1 : j = k
        · rw [if_pos e1, if_pos (by omega)]
        · rw [if_neg e1]
          by_cases e2 : j < k
          · rw [if_pos e2, if_pos (by omega)]
          · rw [if_neg e2, if_neg (by omega)]
      rw [ef] at h4
      have HF : Hid (w4.heap[m]? = some (.cells (md P C (fun _ => .pointer none) (fun j => if j < k + 1 then 1 else 0)) 51 (0, 0)) ∧ Keeps (fun _ => False) w w4) := Hid.of (And.intro h4 (by rw [← hw4]; exact HH.out.2.setCell _ _ (.inr HL.out)))
      clear h4 HH ef
      go_wp2
      go_roundw
      case rel => exact ⟨k + 1, by omega, by go_num, HF⟩
      case measure => simp [intOf]; omega
    · obtain rfl : k = 8 := by omega
      go_wp2
      go_ret2
      exact ⟨m, rfl, HH.out.1, HL.out, HH.out.2⟩
end Mo
end Go.Proofs.YtagmkkddjdlncaaDoor
