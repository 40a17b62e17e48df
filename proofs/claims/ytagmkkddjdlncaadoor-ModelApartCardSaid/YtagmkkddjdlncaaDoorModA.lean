/- A model that is none: at, Live, Charged, Object, Free, Copy. | The model package's walks: may, room. | The model package's walk: New. | A model that is none: Do. | The model package's walks: at, Live. | The model package's walk: next. -/
import Derived.Test.YtagmkkddjdlncaaDoorCaps
import Derived.Test.YtagmkkddjdlncaaDoorDem
import Derived.Test.YtagmkkddjdlncaaDoorOps
import Derived.Laws.ResultCell
set_option linter.unusedVariables false
set_option linter.unusedSimpArgs false
/-! A model that is none: at, Live, Charged, Object, Free, Copy. -/
namespace Go.Proofs.YtagmkkddjdlncaaDoor
open Go.RowKit Go.ChangeMaps
namespace Mo
set_option maxRecDepth 100000 in
theorem at_nil (w : World) (id : Int) : Calls Tryd.prog 23 #[.pointer none, .int .i64 id] w fun e w' => e = .returned (.pointer none) ∧ w = w' := by
  go_enter Tryd.func23, Tryd.ntmps23
  go_wp2
  go_ret
  exact ⟨rfl, rfl⟩
set_option maxRecDepth 100000 in
theorem live_nil (w : World) (id : Int) : Calls Tryd.prog 12 #[.pointer none, .int .i64 id] w fun e w' => e = .returned (.bool false) ∧ w = w' := by
  have q := at_nil w id
  go_enter Tryd.func12, Tryd.ntmps12
  go_wp2_with fail
  refine q.mono ?_
  rintro e w1 ⟨rfl, rfl⟩
  clear q
  go_wp2
  go_ret
  exact ⟨rfl, rfl⟩
set_option maxRecDepth 100000 in
theorem chargedp_nil (w : World) : Calls Tryd.prog 25 #[.pointer none] w fun e w' => e = .returned (.int .i64 0) ∧ w = w' := by
  go_enter Tryd.func25, Tryd.ntmps25
  go_wp2
  go_ret
  exact ⟨rfl, rfl⟩
set_option maxRecDepth 100000 in
theorem charged_nil (w : World) (id : Int) : Calls Tryd.prog 13 #[.pointer none, .int .i64 id] w fun e w' => e = .returned (.int .i64 0) ∧ w = w' := by
  have q := at_nil w id
  have q2 := chargedp_nil w
  go_enter Tryd.func13, Tryd.ntmps13
  go_wp2_with fail
  refine q.mono ?_
  rintro e w1 ⟨rfl, rfl⟩
  clear q
  go_wp2_with fail
  refine q2.mono ?_
  rintro e w1 ⟨rfl, rfl⟩
  clear q2
  go_wp2
  go_ret
  exact ⟨rfl, rfl⟩
set_option maxRecDepth 100000 in
theorem free_nil (w : World) : Calls Tryd.prog 14 #[.pointer none] w fun e w' => e = .returned (.int .i64 0) ∧ w = w' := by
  go_enter Tryd.func14, Tryd.ntmps14
  go_wp2
  go_ret
  exact ⟨rfl, rfl⟩
set_option maxRecDepth 100000 in
theorem copy_nil (w : World) : Calls Tryd.prog 10 #[.pointer none] w fun e w' => e = .returned (.pointer none) ∧ w = w' := by
  go_enter Tryd.func10, Tryd.ntmps10
  go_wp2
  go_ret
  exact ⟨rfl, rfl⟩
set_option maxRecDepth 100000 in
theorem object_nil (w : World) (id : Int) (h : Int) : Calls Tryd.prog 11 #[.pointer none, .int .i64 id, .int .u64 h] w fun e w' => e = .returned (.tuple #[.string ⟨#[]⟩, .bool false]) ∧ w = w' := by
  have q := at_nil w id
  go_enter Tryd.func11, Tryd.ntmps11
  go_wp2_with fail
  refine q.mono ?_
  rintro e w1 ⟨rfl, rfl⟩
  clear q
  go_wp2
  go_ret2
  exact ⟨rfl, rfl⟩
end Mo
end Go.Proofs.YtagmkkddjdlncaaDoor

/-! The model package's walks: may, room. -/
namespace Go.Proofs.YtagmkkddjdlncaaDoor
open Go.RowKit Go.ChangeMaps
namespace Mo
def may (C : Nat) (c q : Int) : Bool := decide ((1 ≤ q ∧ q ≤ 65536) ∧ 1 ≤ c ∧ c ≤ C)
set_option maxRecDepth 100000 in
set_option maxHeartbeats 1000000 in
theorem may_any (w : World) (m C : Nat) (c q : Int) (h1 : w.cell? ⟨m, 1, none⟩ = some (.int .i64 C)) :
    Calls Tryd.prog 26 #[.pointer (some ⟨m, 0, none⟩), .int .i64 c, .int .i64 q] w fun e w' => e = .returned (.bool (may C c q)) ∧ w = w' := by
  unfold may
  obtain ⟨n, hn⟩ : ∃ n : Int, (C : Int) = n := ⟨_, rfl⟩
  rw [hn] at h1 ⊢
  clear hn
  by_cases hq : 1 ≤ q ∧ q ≤ 65536
  · have q1 := Dem.of_any w q hq
    generalize fl q = f at *
    generalize fl (Dem.need q) = g at *
    have hc : c < 1 ∨ (1 ≤ c ∧ c ≤ n) ∨ (1 ≤ c ∧ n < c) := by omega
    rcases hc with h | ⟨h, h2⟩ | ⟨h, h2⟩
    · rw [show decide ((1 ≤ q ∧ q ≤ 65536) ∧ 1 ≤ c ∧ c ≤ n) = false by simp; omega]
      clear hq
      go_enter Tryd.func26, Tryd.ntmps26
      go_wp2_with fail
      refine q1.mono ?_
      rintro e w1 ⟨rfl, rfl⟩
      clear q1
      go_wp2
      go_ret
      exact ⟨rfl, rfl⟩
    · rw [show decide ((1 ≤ q ∧ q ≤ 65536) ∧ 1 ≤ c ∧ c ≤ n) = true by simp; omega]
      have t : decide (c ≤ n) = true := by simpa using h2
      clear hq
      go_enter Tryd.func26, Tryd.ntmps26
      go_wp2_with fail
      refine q1.mono ?_
      rintro e w1 ⟨rfl, rfl⟩
      clear q1
      go_wp2
      go_ret
      exact ⟨rfl, rfl⟩
    · rw [show decide ((1 ≤ q ∧ q ≤ 65536) ∧ 1 ≤ c ∧ c ≤ n) = false by simp; omega]
      have t : decide (c ≤ n) = false := by simp; omega
      clear hq
      go_enter Tryd.func26, Tryd.ntmps26
      go_wp2_with fail
      refine q1.mono ?_
      rintro e w1 ⟨rfl, rfl⟩
      clear q1
      go_wp2
      go_ret
      exact ⟨rfl, rfl⟩
  · have q1 := Dem.of_bad w q hq
    rw [show decide ((1 ≤ q ∧ q ≤ 65536) ∧ 1 ≤ c ∧ c ≤ n) = false by simp; omega]
    clear hq
    go_enter Tryd.func26, Tryd.ntmps26
    go_wp2_with fail
    refine q1.mono ?_
    rintro e w1 ⟨rfl, rfl⟩
    clear q1
    go_wp2
    go_ret
    exact ⟨rfl, rfl⟩
set_option maxRecDepth 100000 in
set_option maxHeartbeats 1000000 in
theorem room_any (w : World) (m P C c : Nat) (h0 : w.cell? ⟨m, 0, none⟩ = some (.int .i64 P)) (h1 : w.cell? ⟨m, 1, none⟩ = some (.int .i64 C)) (hP : P ≤ 4096) (hC : 1 ≤ C) (hc : c ≤ 32) :
    Calls Tryd.prog 28 #[.pointer (some ⟨m, 0, none⟩), .int .i64 c] w fun e w' => e = .returned (.int .i64 ((c * (P / C) : Nat) : Int)) ∧ Keeps (fun _ => False) w w' := by
  have ht : (P : Int).tdiv (C : Int) = ((P / C : Nat) : Int) := by rw [Int.tdiv_eq_ediv_of_nonneg (by omega)]; rfl
  have hb : P / C ≤ 4096 := Nat.le_trans (Nat.div_le_self _ _) hP
  have hm : c * (P / C) ≤ 32 * 4096 := Nat.mul_le_mul hc hb
  obtain ⟨D, hD⟩ : ∃ D, P / C = D := ⟨_, rfl⟩
  rw [hD] at ht hb hm ⊢
  obtain ⟨X, hX⟩ : ∃ X, c * D = X := ⟨_, rfl⟩
  have hX2 : (c : Int) * (D : Int) = (X : Int) := by rw [← hX]; simp
  rw [hX] at hm ⊢
  have w1 : IntKind.i64.wrap (D : Int) = (D : Int) := IntWalk.i64_in _ (by omega)
  have w2 : IntKind.i64.wrap (X : Int) = (X : Int) := IntWalk.i64_in _ (by omega)
  have c0 : ((C : Int) == 0) = false := by simp; omega
  clear hD hX hP hc
  go_enter Tryd.func28, Tryd.ntmps28
  go_wp2
  go_region
  all_goals
    go_wp2
    go_ret
    exact ⟨rfl, (Keeps.refl _ _).drew⟩
end Mo
end Go.Proofs.YtagmkkddjdlncaaDoor

/-! The model package's walk: New. -/
namespace Go.Proofs.YtagmkkddjdlncaaDoor
open Go.RowKit Go.ChangeMaps
namespace Mo
/-- Whether a configuration may be. -/
def cfg (P C : Int) : Prop := 1 ≤ C ∧ C ≤ 32 ∧ 1 ≤ P ∧ P ≤ 4096 ∧ P % C = 0
set_option maxRecDepth 100000 in
set_option maxHeartbeats 1000000 in
theorem new_bad (w : World) (P C : Int) (h : ¬ cfg P C) : Calls Tryd.prog 6 #[.agg #[.int .i64 P, .int .i64 C]] w fun e w' => e = .returned (.tuple #[.pointer none, .int .i64 12]) ∧ Keeps (fun _ => False) w w' := by
  obtain ⟨A, hA⟩ : ∃ A, w.heap.size = A := ⟨_, rfl⟩
  obtain ⟨w1, hw1⟩ : ∃ w1, w.alloc (.cells #[.int .i64 P, .int .i64 C] 23) = w1 := ⟨_, rfl⟩
  have k1 : Keeps (fun _ => False) w w1 := by rw [← hw1]; exact (Keeps.refl _ _).alloc _
  have ha1 : w1.heap[A]? = some (.cells #[.int .i64 P, .int .i64 C] 23 (0, 0)) := by rw [← hw1, ← hA]; exact alloc_new _ _
  have c0 := cell_of (v := .int .i64 P) ha1 0 rfl
  have c1 := cell_of (v := .int .i64 C) ha1 1 rfl
  have HK := Hid.of k1
  have hc : C < 1 ∨ (1 ≤ C ∧ 32 < C) ∨ (1 ≤ C ∧ C ≤ 32 ∧ P < 1) ∨ (1 ≤ C ∧ C ≤ 32 ∧ 1 ≤ P ∧ 4096 < P) ∨ (1 ≤ C ∧ C ≤ 32 ∧ 1 ≤ P ∧ P ≤ 4096 ∧ P % C ≠ 0) := by
    unfold cfg at h
    by_cases h1 : 1 ≤ C ∧ C ≤ 32 ∧ 1 ≤ P ∧ P ≤ 4096
    · right; right; right; right
      exact ⟨h1.1, h1.2.1, h1.2.2.1, h1.2.2.2, fun e => h ⟨h1.1, h1.2.1, h1.2.2.1, h1.2.2.2, e⟩⟩
    · omega
  clear k1 ha1 h
  rcases hc with h1 | ⟨h1, h2⟩ | ⟨h1, h2, h3⟩ | ⟨h1, h2, h3, h4⟩ | ⟨h1, h2, h3, h4, h5⟩
  case inr.inr.inr.inr =>
    have ht : P.tmod C = P % C := Int.tmod_eq_emod_of_nonneg (by omega)
    obtain ⟨r, hr⟩ : ∃ r, P % C = r := ⟨_, rfl⟩
    have hrb : 0 ≤ r ∧ r < C := by rw [← hr]; exact ⟨Int.emod_nonneg _ (by omega), Int.emod_lt_of_pos _ (by omega)⟩
    rw [hr] at ht h5
    have m0 : (C == 0) = false := by simp; omega
    have m1 : (r != 0) = true := by simpa using h5
    clear hr h5
    go_enter Tryd.func6, Tryd.ntmps6
    go_wp2
    try go_region
    all_goals
      go_wp2
      go_ret2
      first | exact ⟨rfl, HK.out⟩ | exact ⟨rfl, HK.out.drew⟩
  all_goals
    go_enter Tryd.func6, Tryd.ntmps6
    go_wp2
    try go_region
    all_goals
      go_wp2
      go_ret2
      first | exact ⟨rfl, HK.out⟩ | exact ⟨rfl, HK.out.drew⟩
/-- A model's cells: pages, colours, parts, serials. -/
def md (P C : Int) (q : Nat → Value) (s : Nat → Int) : Array Value := #[.int .i64 P, .int .i64 C, q 0, q 1, q 2, q 3, q 4, q 5, q 6, q 7, .int .i64 (s 0), .int .i64 (s 1), .int .i64 (s 2), .int .i64 (s 3), .int .i64 (s 4), .int .i64 (s 5), .int .i64 (s 6), .int .i64 (s 7)]
theorem md_ser (P C : Int) (q : Nat → Value) (s : Nat → Int) {k : Nat} (hk : k < 8) : (md P C q s)[10 + k]? = some (.int .i64 (s k)) := by
  rcases Cl.eight_cases hk with rfl | rfl | rfl | rfl | rfl | rfl | rfl | rfl <;> rfl
theorem md_part (P C : Int) (q : Nat → Value) (s : Nat → Int) {k : Nat} (hk : k < 8) : (md P C q s)[2 + k]? = some (q k) := by
  rcases Cl.eight_cases hk with rfl | rfl | rfl | rfl | rfl | rfl | rfl | rfl <;> rfl
theorem md_setser (P C : Int) (q : Nat → Value) (s : Nat → Int) (x : Int) {k : Nat} (hk : k < 8) : (md P C q s).setIfInBounds (10 + k) (.int .i64 x) = md P C q (fun j => if j = k then x else s j) := by
  rcases Cl.eight_cases hk with rfl | rfl | rfl | rfl | rfl | rfl | rfl | rfl <;> rfl
theorem md_setpart (P C : Int) (q : Nat → Value) (s : Nat → Int) (x : Value) {k : Nat} (hk : k < 8) : (md P C q s).setIfInBounds (2 + k) x = md P C (fun j => if j = k then x else q j) s := by
  rcases Cl.eight_cases hk with rfl | rfl | rfl | rfl | rfl | rfl | rfl | rfl <;> rfl
def NewR (w : World) (P C : Int) (e : Ending) (w' : World) : Prop := ∃ m, e = .returned (.tuple #[.pointer (some ⟨m, 0, none⟩), .int .i64 0]) ∧ w'.heap[m]? = some (.cells (md P C (fun _ => .pointer none) (fun _ => 1)) 51 (0, 0)) ∧ w.heap.size ≤ m ∧ Keeps (fun _ => False) w w'
set_option maxRecDepth 100000 in
set_option maxHeartbeats 1000000 in
theorem new_any (w : World) (P C : Int) (h : cfg P C) : Calls Tryd.prog 6 #[.agg #[.int .i64 P, .int .i64 C]] w (NewR w P C) := by
  obtain ⟨h1, h2, h3, h4, h5⟩ := h
  obtain ⟨A, hA⟩ : ∃ A, w.heap.size = A := ⟨_, rfl⟩
  obtain ⟨w1, hw1⟩ : ∃ w1, w.alloc (.cells #[.int .i64 P, .int .i64 C] 23) = w1 := ⟨_, rfl⟩
  have k1 : Keeps (fun _ => False) w w1 := by rw [← hw1]; exact (Keeps.refl _ _).alloc _
  have ha1 : w1.heap[A]? = some (.cells #[.int .i64 P, .int .i64 C] 23 (0, 0)) := by rw [← hw1, ← hA]; exact alloc_new _ _
  have c0 := cell_of (v := .int .i64 P) ha1 0 rfl
  have c1 := cell_of (v := .int .i64 C) ha1 1 rfl
  have HK := Hid.of (And.intro k1 ha1)
  have ht : P.tmod C = 0 := by rw [Int.tmod_eq_emod_of_nonneg (by omega)]; exact h5
  have m0 : (C == 0) = false := by simp; omega
  clear h5 k1 ha1
  go_enter Tryd.func6, Tryd.ntmps6
  go_wp2
  obtain ⟨m, hm⟩ : ∃ m, w1.heap.size = m := ⟨_, rfl⟩
  obtain ⟨w2, hw2⟩ : ∃ w2, w1.alloc (.cells #[.int .i64 P, .int .i64 C, .pointer none, .pointer none, .pointer none, .pointer none, .pointer none, .pointer none, .pointer none, .pointer none, .int .i64 0, .int .i64 0, .int .i64 0, .int .i64 0, .int .i64 0, .int .i64 0, .int .i64 0, .int .i64 0] 51) = w2 := ⟨_, rfl⟩
  rw [hm, hw2]
  have hmd : w2.heap[m]? = some (.cells (md P C (fun _ => .pointer none) (fun j => if j < 0 then 1 else 0)) 51 (0, 0)) := by rw [← hw2, ← hm]; exact alloc_new _ _
  have K2 : Keeps (fun _ => False) w w2 := by rw [← hw2]; exact HK.out.1.alloc _
  have hlo : w.heap.size ≤ m := by have := HK.out.1.size; omega
  have HL := Hid.of hlo
  clear hw2 hm c0 c1 ht hlo
  go_loopw [35] (fun i wr => ∃ k : Nat, k ≤ 8 ∧ i = .int .i64 k ∧ Hid (wr.heap[m]? = some (.cells (md P C (fun _ => .pointer none) (fun j => if j < k then 1 else 0)) 51 (0, 0)) ∧ Keeps (fun _ => False) w wr)) (fun i _ => 8 - (intOf i).toNat)
  case atStart => exact ⟨0, by omega, rfl, Hid.of (And.intro hmd K2)⟩
  case round =>
    clear hmd K2
    obtain ⟨k, hk, rfl, HH⟩ := hrel
    by_cases hk8 : k < 8
    · have hki : (k : Int) < 8 := by omega
      have c := cell_of HH.out.1 (10 + k) (md_ser P C _ _ hk8)
      have f := free_of HH.out.1 (10 + k)
      obtain ⟨w4, hw4⟩ : ∃ w4, wr.setCell ⟨m, 10 + k, none⟩ (.int .i64 1) = w4 := ⟨_, rfl⟩
      have h4 := set_of HH.out.1 (10 + k) (.int .i64 1)
      rw [md_setser P C _ _ 1 hk8, hw4] at h4
      have ef : (fun j => if j = k then (1 : Int) else if j < k then 1 else 0) = (fun j => if j < k + 1 then 1 else 0) := by
        funext j
        by_cases e1 : j = k
        · rw [if_pos e1, if_pos (by omega)]
        · rw [if_neg e1]
          by_cases e2 : j < k
          · rw [if_pos e2, if_pos (by omega)]
          · rw [if_neg e2, if_neg (by omega)]
      rw [ef] at h4
      have HF : Hid (w4.heap[m]? = some (.cells (md P C (fun _ => .pointer none) (fun j => if j < k + 1 then 1 else 0)) 51 (0, 0)) ∧ Keeps (fun _ => False) w w4) := Hid.of (And.intro h4 (by rw [← hw4]; exact HH.out.2.setCell _ _ (.inr HL.out)))
      clear h4 HH ef
      go_wp2
      go_roundw
      case rel => exact ⟨k + 1, by omega, by go_num, HF⟩
      case measure => simp [intOf]; omega
    · obtain rfl : k = 8 := by omega
      go_wp2
      go_ret2
      exact ⟨m, rfl, HH.out.1, HL.out, HH.out.2⟩
end Mo
end Go.Proofs.YtagmkkddjdlncaaDoor

/-! A model that is none: Do. -/
namespace Go.Proofs.YtagmkkddjdlncaaDoor
open Go.RowKit Go.ChangeMaps
namespace Mo
set_option maxRecDepth 100000 in
set_option maxHeartbeats 1000000 in
theorem do_nil (w : World) (o : XOp) : Calls Tryd.prog 9 #[.pointer none, .agg o.enc.toArray] w fun e w' => e = .returned (.agg (XAns.enc ⟨11, 0, 0, 0, ⟨#[]⟩, 0⟩).toArray) ∧ Keeps (fun _ => False) w w' := by
  obtain ⟨kind, tenant, n, m, handle, data⟩ := o
  unfold XOp.enc XAns.enc
  dsimp only
  go_enter Tryd.func9, Tryd.ntmps9
  go_wp2
  have K : Keeps (fun _ => False) w ((w.alloc (.cells #[.int .i64 kind, .int .i64 tenant, .int .i64 n, .int .i64 m, .int .u64 handle, .string data] 34)).alloc (.cells #[.int .i64 11, .int .u64 0, .int .i64 0, .int .i64 0, .string ⟨#[]⟩, .int .i64 0] 36)) := ((Keeps.refl _ _).alloc _).alloc _
  have hb := alloc_new (w.alloc (.cells #[.int .i64 kind, .int .i64 tenant, .int .i64 n, .int .i64 m, .int .u64 handle, .string data] 34)) (.cells #[.int .i64 11, .int .u64 0, .int .i64 0, .int .i64 0, .string ⟨#[]⟩, .int .i64 0] 36)
  have hz : (w.alloc (.cells #[.int .i64 kind, .int .i64 tenant, .int .i64 n, .int .i64 m, .int .u64 handle, .string data] 34)).heap.size = w.heap.size + 1 := by simp
  rw [hz] at hb
  generalize (w.alloc (.cells #[.int .i64 kind, .int .i64 tenant, .int .i64 n, .int .i64 m, .int .u64 handle, .string data] 34)).alloc (.cells #[.int .i64 11, .int .u64 0, .int .i64 0, .int .i64 0, .string ⟨#[]⟩, .int .i64 0] 36) = w4 at *
  have e0 := cell_of (v := .int .i64 11) hb 0 rfl
  have e1 := cell_of (v := .int .u64 0) hb 1 rfl
  have e2 := cell_of (v := .int .i64 0) hb 2 rfl
  have e3 := cell_of (v := .int .i64 0) hb 3 rfl
  have e4 := cell_of (v := .string ⟨#[]⟩) hb 4 rfl
  have e5 := cell_of (v := .int .i64 0) hb 5 rfl
  refine bodyPost_ret (v := .agg #[.int .i64 11, .int .u64 0, .int .i64 0, .int .i64 0, .string ⟨#[]⟩, .int .i64 0]) ?_ ?_ ?_
  · simp [results, Tryd.results9, go_sem, e0, e1, e2, e3, e4, e5]
  · rfl
  · exact ⟨rfl, K⟩
end Mo
end Go.Proofs.YtagmkkddjdlncaaDoor

/-! The model package's walks: at, Live. -/
namespace Go.Proofs.YtagmkkddjdlncaaDoor
open Go.RowKit Go.ChangeMaps
namespace Mo
/-- A tenant's part. -/
def prt (x : Nat → Option Addr) (id : Int) : Option Addr := if 0 ≤ id ∧ id < 8 then x id.toNat else none
set_option maxRecDepth 100000 in
set_option maxHeartbeats 1000000 in
theorem at_any (w : World) (m : Nat) (P C : Int) (x : Nat → Option Addr) (s : Nat → Int) (id : Int) (H : w.heap[m]? = some (.cells (md P C (fun i => .pointer (x i)) s) 51 (0, 0))) :
    Calls Tryd.prog 23 #[.pointer (some ⟨m, 0, none⟩), .int .i64 id] w fun e w' => e = .returned (.pointer (prt x id)) ∧ w = w' := by
  unfold prt
  by_cases h : 0 ≤ id ∧ id < 8
  · rw [if_pos h]
    obtain ⟨k, rfl⟩ : ∃ k : Nat, id = k := ⟨id.toNat, by omega⟩
    rw [Int.toNat_natCast]
    have hk : k < 8 := by omega
    have hki : (k : Int) < 8 := by omega
    have d : decide (8 ≤ k) = false := by simp; omega
    have c := cell_of H (2 + k) (md_part P C _ s hk)
    clear h H
    go_enter Tryd.func23, Tryd.ntmps23
    go_wp2
    go_ret
    exact ⟨rfl, rfl⟩
  · rw [if_neg h]
    have hc : id < 0 ∨ (0 ≤ id ∧ 8 ≤ id) := by omega
    clear h
    rcases hc with h | ⟨h, h2⟩
    all_goals
      go_enter Tryd.func23, Tryd.ntmps23
      go_wp2
      go_ret
      exact ⟨rfl, rfl⟩
set_option maxRecDepth 100000 in
theorem live_any (w : World) (m : Nat) (P C : Int) (x : Nat → Option Addr) (s : Nat → Int) (id : Int) (H : w.heap[m]? = some (.cells (md P C (fun i => .pointer (x i)) s) 51 (0, 0))) :
    Calls Tryd.prog 12 #[.pointer (some ⟨m, 0, none⟩), .int .i64 id] w fun e w' => e = .returned (.bool (prt x id).isSome) ∧ w = w' := by
  have q := at_any w m P C x s id H
  cases hp : prt x id with
  | none =>
    rw [hp] at q
    clear hp H
    go_enter Tryd.func12, Tryd.ntmps12
    go_wp2_with fail
    refine q.mono ?_
    rintro e w1 ⟨rfl, rfl⟩
    clear q
    go_wp2
    go_ret
    exact ⟨rfl, rfl⟩
  | some a =>
    rw [hp] at q
    clear hp H
    go_enter Tryd.func12, Tryd.ntmps12
    go_wp2_with fail
    refine q.mono ?_
    rintro e w1 ⟨rfl, rfl⟩
    clear q
    go_wp2
    go_ret
    exact ⟨rfl, rfl⟩
end Mo
end Go.Proofs.YtagmkkddjdlncaaDoor

/-! The model package's walk: next. -/
namespace Go.Proofs.YtagmkkddjdlncaaDoor
open Go.RowKit Go.ChangeMaps
namespace Mo
/-- A part's cells: its handles, colours, quota, peak, objects, how many there were. -/
def pcells (c : Nat) (k q t : Int) (ob : Nat) (n : Int) : Array Value := #[.pointer (some ⟨c, 0, none⟩), .int .i64 k, .int .i64 q, .int .i64 t, .map (some ob), .int .i64 n]
def next (l : List (Int × Value)) (t q : Int) : Int := if l.length = 0 then q else max q t
set_option maxRecDepth 100000 in
set_option maxHeartbeats 1000000 in
theorem next_any (w : World) (b c ob : Nat) (k q t n z : Int) (l : List (Int × Value)) (H : w.heap[b]? = some (.cells (pcells c k q t ob n) 58 (0, 0))) (hm : IMap w ob l) (hl : l.length ≤ 1000000000) :
    Calls Tryd.prog 30 #[.pointer (some ⟨b, 0, none⟩), .int .i64 z] w fun e w' => e = .returned (.int .i64 (next l t z)) ∧ w = w' := by
  have c4 := cell_of (v := .map (some ob)) H 4 rfl
  have c3 := cell_of (v := .int .i64 t) H 3 rfl
  have hlen := hm.len (P := Tryd.prog) (ty := 3) Tryd.underlying56
  have hmax := fun ts ty w => run_max_int (P := Tryd.prog) ts ty z t w
  unfold next
  obtain ⟨y, hy⟩ : ∃ y, l.length = y := ⟨_, rfl⟩
  rw [hy] at hlen ⊢
  have hM : (if z < t then t else z) = max z t := by split <;> omega
  rw [hM] at hmax
  generalize max z t = M at *
  clear H hm
  by_cases h : y = 0
  · rw [if_pos h]
    have t0 : ((y : Int) == 0) = true := by simp; omega
    clear h hM
    go_enter Tryd.func30, Tryd.ntmps30
    go_wp2
    go_ret
    exact ⟨rfl, rfl⟩
  · rw [if_neg h]
    have t0 : ((y : Int) == 0) = false := by simp; omega
    clear h hM
    go_enter Tryd.func30, Tryd.ntmps30
    go_wp2
    go_ret
    exact ⟨rfl, rfl⟩
end Mo
end Go.Proofs.YtagmkkddjdlncaaDoor
