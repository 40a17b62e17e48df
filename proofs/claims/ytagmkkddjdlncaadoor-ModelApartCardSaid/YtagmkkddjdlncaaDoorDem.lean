/- The sum and demand packages' walks: a quota's pages, and whether they are enough. -/
import Derived.Test.YtagmkkddjdlncaaDoorClA
import Derived.Test.YtagmkkddjdlncaaDoorFloat
import Derived.Laws.Cover3
set_option linter.unusedVariables false
set_option linter.unusedSimpArgs false
namespace Go.Proofs.YtagmkkddjdlncaaDoor
open Go.RowKit Go.ChangeMaps
namespace Dem
theorem run_fl_int64 (w : World) (p : Int) (h : p.natAbs < 2 ^ 53) : (convert 107 2 (.float .f64 (fl p))).run Tryd.prog w = .ok (.int .i64 p) w := by
  have e1 := toInt_fl p h
  have e2 : IntKind.i64.min ≤ p ∧ p ≤ IntKind.i64.max := by
    have a1 : IntKind.i64.min = -9223372036854775808 := rfl
    have a2 : IntKind.i64.max = 9223372036854775807 := rfl
    omega
  simp [convert, run_underlying Tryd.underlying107, run_underlying Tryd.underlying2, Conv.floatToInt, e1, e2]
  intro h; omega
theorem run_fl_int' (w : World) (p : Int) (h : p.natAbs < 2 ^ 53) : (convert 107 3 (.float .f64 (fl p))).run Tryd.prog w = .ok (.int .i64 p) w := by
  have e1 := toInt_fl p h
  have e2 : IntKind.i64.min ≤ p ∧ p ≤ IntKind.i64.max := by
    have a1 : IntKind.i64.min = -9223372036854775808 := rfl
    have a2 : IntKind.i64.max = 9223372036854775807 := rfl
    omega
  simp [convert, run_underlying Tryd.underlying107, run_underlying Tryd.underlying3, Conv.floatToInt, e1, e2]
  intro h; omega
theorem run_int64_fl (w : World) (p : Int) : (convert 2 107 (.int .i64 p)).run Tryd.prog w = .ok (.float .f64 (fl p)) w := by
  simp [convert, run_underlying Tryd.underlying107, run_underlying Tryd.underlying2, Conv.intToFloat, fl]
theorem run_int_fl (w : World) (p : Int) : (convert 3 107 (.int .i64 p)).run Tryd.prog w = .ok (.float .f64 (fl p)) w := by
  simp [convert, run_underlying Tryd.underlying107, run_underlying Tryd.underlying3, Conv.intToFloat, fl]
theorem fl_zero : fl 0 = 0 := by decide +kernel
theorem fl_most : fl 1099511627776 = 4787326403894837248 := by decide +kernel
theorem order_zero (n : Int) (h0 : 0 ≤ n) (h1 : n ≤ 1099511627776) : ∃ o, FloatKind.f64.format.order (fl n) 0 = some o ∧ (o = .gt ∨ o = .eq) := by
  have h : FloatKind.f64.format.order (fl n) (fl 0) = some (compare n 0) := order_fl n 0 (by omega) (by omega)
  rw [fl_zero] at h
  refine ⟨_, h, ?_⟩
  rcases Int.lt_or_eq_of_le h0 with h2 | h2
  · exact .inl (Int.compare_eq_gt.2 h2)
  · exact .inr (Int.compare_eq_eq.2 h2.symm)
theorem order_most (n : Int) (h0 : 0 ≤ n) (h1 : n ≤ 1099511627776) : ∃ o, FloatKind.f64.format.order (fl n) 4787326403894837248 = some o ∧ (o = .lt ∨ o = .eq) := by
  have h : FloatKind.f64.format.order (fl n) (fl 1099511627776) = some (compare n 1099511627776) := order_fl n _ (by omega) (by omega)
  rw [fl_most] at h
  refine ⟨_, h, ?_⟩
  rcases Int.lt_or_eq_of_le h1 with h2 | h2
  · exact .inl (Int.compare_eq_lt.2 h2)
  · exact .inr (Int.compare_eq_eq.2 h2)
set_option maxRecDepth 100000 in
theorem whole_any (w : World) (n : Int) (h0 : 0 ≤ n) (h1 : n ≤ 1099511627776) : Calls Tryd.prog 64 #[.float .f64 (fl n)] w fun e w' => e = .returned (.bool true) ∧ w = w' := by
  obtain ⟨o1, e1, ho1⟩ := order_zero n h0 h1
  obtain ⟨o2, e2, ho2⟩ := order_most n h0 h1
  have e3 : FloatKind.f64.format.order (fl n) (fl n) = some .eq := by
    have h : FloatKind.f64.format.order (fl n) (fl n) = some (compare n n) := order_fl n n (by omega) (by omega)
    rw [h, Int.compare_eq_eq.2 rfl]
  have c1 := fun w => run_fl_int64 w n (by omega)
  have c2 := fun w => run_int64_fl w n
  generalize fl n = f at *
  rcases ho1 with rfl | rfl <;> rcases ho2 with rfl | rfl
  all_goals
    go_enter Tryd.func64, Tryd.ntmps64
    go_wp2
    go_ret
    exact ⟨by simp, rfl⟩
set_option maxRecDepth 100000 in
theorem right_any (w : World) (a n : Int) (ha : 0 ≤ a) (ha1 : a ≤ 1099511627776) (h0 : 0 ≤ n) (h1 : n ≤ 1099511627776) : Calls Tryd.prog 56 #[.complex .f64 (fl a) (fl n)] w fun e w' => e = .returned (.bool true) ∧ w = w' := by
  have q1 := whole_any w a ha ha1
  have q2 := whole_any w n h0 h1
  generalize fl a = f at *
  generalize fl n = g at *
  go_enter Tryd.func56, Tryd.ntmps56
  go_wp2_with fail
  refine q1.mono ?_
  rintro e w1 ⟨rfl, rfl⟩
  clear q1
  go_wp2_with fail
  refine q2.mono ?_
  rintro e w1 ⟨rfl, rfl⟩
  clear q2
  go_wp2
  go_ret
  exact ⟨rfl, rfl⟩
set_option maxRecDepth 100000 in
theorem pages_any (w : World) (a n : Int) (ha : 0 ≤ a) (ha1 : a ≤ 1099511627776) (h0 : 0 ≤ n) (h1 : n ≤ 1099511627776) : Calls Tryd.prog 44 #[.complex .f64 (fl a) (fl n)] w fun e w' => e = .returned (.int .i64 n) ∧ w = w' := by
  have q := right_any w a n ha ha1 h0 h1
  have c := fun w => run_fl_int' w n (by omega)
  generalize fl a = f at *
  generalize fl n = g at *
  clear ha ha1 h0 h1
  go_enter Tryd.func44, Tryd.ntmps44
  go_wp2_with fail
  refine q.mono ?_
  rintro e w1 ⟨rfl, rfl⟩
  clear q
  go_wp2
  go_ret
  exact ⟨rfl, rfl⟩
set_option maxRecDepth 100000 in
theorem may_any (w : World) (q : Int) : Calls Tryd.prog 53 #[.int .i64 q] w fun e w' => e = .returned (.bool (decide (1 ≤ q ∧ q ≤ 65536))) ∧ w = w' := by
  by_cases h1 : 1 ≤ q
  · by_cases h2 : q ≤ 65536
    · have e : decide (1 ≤ q ∧ q ≤ 65536) = true := by simp; omega
      rw [e]; clear e
      go_enter Tryd.func53, Tryd.ntmps53
      go_wp2
      go_ret
      exact ⟨rfl, rfl⟩
    · have e : decide (1 ≤ q ∧ q ≤ 65536) = false := by simp; omega
      rw [e]; clear e
      go_enter Tryd.func53, Tryd.ntmps53
      go_wp2
      go_ret
      exact ⟨rfl, rfl⟩
  · have e : decide (1 ≤ q ∧ q ≤ 65536) = false := by simp; omega
    rw [e]; clear e
    go_enter Tryd.func53, Tryd.ntmps53
    go_wp2
    go_ret
    exact ⟨rfl, rfl⟩
set_option maxRecDepth 100000 in
theorem runs_any (w : World) (q : Int) (h : 1 ≤ q ∧ q ≤ 65536) : Calls Tryd.prog 54 #[.int .i64 q] w fun e w' => e = .returned (.int .i64 (q / 512)) ∧ w = w' := by
  have q1 := may_any w q
  rw [show decide (1 ≤ q ∧ q ≤ 65536) = true by simpa using h] at q1
  have ht : q.tdiv 512 = q / 512 := Int.tdiv_eq_ediv_of_nonneg (by omega)
  obtain ⟨K, hK⟩ : ∃ K, q / 512 = K := ⟨_, rfl⟩
  have hK2 : 0 ≤ K ∧ K ≤ 128 := by omega
  rw [hK] at ht ⊢
  clear hK h
  go_enter Tryd.func54, Tryd.ntmps54
  go_wp2_with fail
  refine q1.mono ?_
  rintro e w1 ⟨rfl, rfl⟩
  clear q1
  go_wp2
  go_ret
  exact ⟨rfl, rfl⟩
/-- Pages of a small kind. -/
def by' (c : Nat) (q : Int) : Int := (q / (Cl.sm c : Int) + Cl.per c - 1) / Cl.per c
theorem per_at {c : Nat} (h : c < 8) : Cl.per c = 512 / (Cl.sm c : Int) := by unfold Cl.per; rw [if_pos (by omega), Int.toNat_natCast]
theorem per_range {c : Nat} (h : c < 8) : 2 ≤ Cl.per c ∧ Cl.per c ≤ 32 := by
  rcases Cl.eight_cases h with rfl | rfl | rfl | rfl | rfl | rfl | rfl | rfl <;> simp [Cl.per, Cl.sm]
theorem by_range {c : Nat} (hc : c < 8) {q : Int} (h : 1 ≤ q ∧ q ≤ 65536) : 0 ≤ by' c q ∧ by' c q ≤ 70000 := by
  have hs := Cl.sm_pos hc
  have hp := per_range hc
  have h1 : 0 ≤ q / (Cl.sm c : Int) := Int.ediv_nonneg (by omega) (by omega)
  have h2 : q / (Cl.sm c : Int) ≤ q := Int.ediv_le_self _ (by omega)
  unfold by'
  have h3 : 0 ≤ q / (Cl.sm c : Int) + Cl.per c - 1 := by omega
  exact ⟨Int.ediv_nonneg h3 (by omega), by have := Int.ediv_le_self (Cl.per c) h3; omega⟩
set_option maxRecDepth 100000 in
theorem by_any (w : World) (c : Nat) (hc : c < 8) (q : Int) (h : 1 ≤ q ∧ q ≤ 65536) : Calls Tryd.prog 55 #[.int .i64 c, .int .i64 q] w fun e w' => e = .returned (.int .i64 (by' c q)) ∧ w = w' := by
  have q1 := Cl.per_small w c hc
  have q2 := may_any w q
  have q3 := Cl.unit_any w c
  rw [show decide (1 ≤ q ∧ q ≤ 65536) = true by simpa using h] at q2
  have hu : Cl.unit c = (Cl.sm c : Int) := by unfold Cl.unit; rw [if_pos (by omega), if_pos (by omega), Int.toNat_natCast]
  rw [hu] at q3
  have hs := Cl.sm_pos hc
  have hp := per_range hc
  have h1 : 0 ≤ q / (Cl.sm c : Int) := Int.ediv_nonneg (by omega) (by omega)
  have h2 : q / (Cl.sm c : Int) ≤ q := Int.ediv_le_self _ (by omega)
  have t1 : q.tdiv (Cl.sm c : Int) = q / (Cl.sm c : Int) := Int.tdiv_eq_ediv_of_nonneg (by omega)
  have t2 : (q / (Cl.sm c : Int) + Cl.per c - 1).tdiv (Cl.per c) = by' c q := Int.tdiv_eq_ediv_of_nonneg (by omega)
  have hb := by_range hc h
  generalize by' c q = B at *
  generalize hx : (Cl.sm c : Int) = x at *
  generalize hy : q / x = y at *
  generalize hz : Cl.per c = z at *
  have hs' : 16 ≤ x ∧ x ≤ 256 := by omega
  have w1 : wrap64 (y + z) = y + z := by unfold wrap64; omega
  have w2 : wrap64 (y + z - 1) = y + z - 1 := by unfold wrap64; omega
  have z0 : (z == 0) = false := by simp; omega
  clear hu hs hx hy hz
  go_enter Tryd.func55, Tryd.ntmps55
  go_wp2_with fail
  refine q1.mono ?_
  rintro e w1 ⟨rfl, rfl⟩
  clear q1
  go_wp2_with fail
  refine q2.mono ?_
  rintro e w1 ⟨rfl, rfl⟩
  clear q2
  go_wp2_with fail
  refine q3.mono ?_
  rintro e w1 ⟨rfl, rfl⟩
  clear q3
  go_wp2
  go_ret
  exact ⟨rfl, rfl⟩
def needTo (q : Int) : Nat → Int
  | 0 => q / 512
  | k + 1 => needTo q k + by' k q
def need (q : Int) : Int := needTo q 8
theorem needTo_range {q : Int} (h : 1 ≤ q ∧ q ≤ 65536) : ∀ k, k ≤ 8 → 0 ≤ needTo q k ∧ needTo q k ≤ 128 + 70000 * k
  | 0, _ => by unfold needTo; omega
  | k + 1, hk => by
    have := needTo_range h k (by omega)
    have := by_range (c := k) (by omega) h
    unfold needTo
    omega
theorem add_fl' (a b : Int) (ha : 0 ≤ a ∧ a ≤ 1000000) (hb : 0 ≤ b ∧ b ≤ 1000000) : FloatKind.f64.format.add (fl a) (fl b) = some (fl (a + b)) := add_fl a b (by omega) (by omega) (by omega)
theorem add_fl0 (a : Int) (ha : 0 ≤ a ∧ a ≤ 1000000) : FloatKind.f64.format.add (fl a) 0 = some (fl a) := by
  have h := add_fl' a 0 ha (by omega)
  rw [fl_zero, Int.add_zero] at h
  exact h
theorem run_cadd {a b c d x y : Nat} (w : World) (e1 : FloatKind.f64.format.add a c = some x) (e2 : FloatKind.f64.format.add b d = some y) : (binOp .add 91 (.complex .f64 a b) (.complex .f64 c d)).run Tryd.prog w = .ok (.complex .f64 x y) w := by
  simp [binOp, run_underlying Tryd.underlying91, Op.complexOp, Op.Complex.arith, Op.floatArith, e1, e2]
set_option maxRecDepth 100000 in
theorem of_any (w : World) (q : Int) (h : 1 ≤ q ∧ q ≤ 65536) : Calls Tryd.prog 43 #[.int .i64 q] w fun e w' => e = .returned (.tuple #[.complex .f64 (fl q) (fl (need q)), .int .i64 0]) ∧ w = w' := by
  have q1 := may_any w q
  rw [show decide (1 ≤ q ∧ q ≤ 65536) = true by simpa using h] at q1
  have q2 := runs_any w q h
  have c1 := fun w p => run_int_fl w p
  have hq0 : q / 512 = needTo q 0 := rfl
  rw [hq0] at q2
  have hn0 := needTo_range h 0 (by omega)
  generalize h0 : needTo q 0 = r0 at *
  go_enter Tryd.func43, Tryd.ntmps43
  go_wp2_with fail
  refine q1.mono ?_
  rintro e w1 ⟨rfl, rfl⟩
  clear q1
  go_wp2_with fail
  refine q2.mono ?_
  rintro e w1 ⟨rfl, rfl⟩
  clear q2
  go_wp2
  go_loop [4, 15] (fun s i => ∃ k : Nat, k ≤ 8 ∧ i = .int .i64 k ∧ s = .complex .f64 (fl q) (fl (needTo q k))) (fun _ i => 8 - (intOf i).toNat)
  case atStart => exact ⟨0, by omega, rfl, by rw [h0]⟩
  case round =>
    clear h0 hq0 hn0
    obtain ⟨k, hk, rfl, rfl⟩ := hrel
    by_cases hlt : k < 8
    · have hki : (k : Int) < 8 := by omega
      have q3 := by_any w k hlt q h
      have a1 := add_fl0 q (by omega)
      have hr := needTo_range h k hk
      have hb := by_range hlt h
      have a2 := add_fl' (needTo q k) (by' k q) (by omega) (by omega)
      have hs : needTo q (k + 1) = needTo q k + by' k q := rfl
      rw [← hs] at a2
      obtain ⟨nx, hnx⟩ : ∃ n, needTo q (k + 1) = n := ⟨_, rfl⟩
      rw [hnx] at a2
      have ca := fun w => run_cadd w a1 a2
      clear hs hr hb a1 a2
      have HN := Hid.of hnx
      clear hnx
      obtain ⟨f3, hf3⟩ : ∃ f, fl nx = f := ⟨_, rfl⟩
      rw [hf3] at ca
      have H3 := Hid.of hf3
      clear hf3
      generalize fl (needTo q k) = f1 at *
      generalize fl q = f0 at *
      go_wp2_with fail
      refine q3.mono ?_
      rintro e w1 ⟨rfl, rfl⟩
      clear q3
      go_wp2
      go_round
      case rel => exact ⟨k + 1, by omega, by go_num, by rw [HN.out, H3.out]⟩
      case measure => simp [intOf]; omega
    · obtain rfl : k = 8 := by omega
      go_wp2
      go_ret2
      exact ⟨rfl, rfl⟩
set_option maxRecDepth 100000 in
theorem of_bad (w : World) (q : Int) (h : ¬ (1 ≤ q ∧ q ≤ 65536)) : Calls Tryd.prog 43 #[.int .i64 q] w fun e w' => e = .returned (.tuple #[.complex .f64 0 0, .int .i64 12]) ∧ w = w' := by
  have q1 := may_any w q
  rw [show decide (1 ≤ q ∧ q ≤ 65536) = false by simpa using h] at q1
  go_enter Tryd.func43, Tryd.ntmps43
  go_wp2_with fail
  refine q1.mono ?_
  rintro e w1 ⟨rfl, rfl⟩
  clear q1
  go_wp2
  go_ret2
  exact ⟨rfl, rfl⟩
def fits (q p : Int) : Bool := decide ((1 ≤ q ∧ q ≤ 65536) ∧ need q ≤ p)
set_option maxRecDepth 100000 in
theorem fits_any (w : World) (q p : Int) : Calls Tryd.prog 27 #[.int .i64 q, .int .i64 p] w fun e w' => e = .returned (.bool (fits q p)) ∧ w = w' := by
  unfold fits
  by_cases h : 1 ≤ q ∧ q ≤ 65536
  · have hr := needTo_range h 8 (by omega)
    have q1 := of_any w q h
    have q2 := pages_any w q (need q) (by omega) (by omega) (by unfold need; omega) (by unfold need; omega)
    generalize fl q = f at *
    generalize fl (need q) = g at *
    rw [show decide ((1 ≤ q ∧ q ≤ 65536) ∧ need q ≤ p) = decide (need q ≤ p) from decide_eq_decide.2 ⟨fun x => x.2, fun x => ⟨h, x⟩⟩]
    generalize need q = n at *
    clear hr h
    go_enter Tryd.func27, Tryd.ntmps27
    go_wp2_with fail
    refine q1.mono ?_
    rintro e w1 ⟨rfl, rfl⟩
    clear q1
    go_wp2_with fail
    refine q2.mono ?_
    rintro e w1 ⟨rfl, rfl⟩
    clear q2
    go_wp2
    go_ret
    exact ⟨rfl, rfl⟩
  · have q1 := of_bad w q h
    rw [show decide ((1 ≤ q ∧ q ≤ 65536) ∧ need q ≤ p) = false by simp; omega]
    clear h
    go_enter Tryd.func27, Tryd.ntmps27
    go_wp2_with fail
    refine q1.mono ?_
    rintro e w1 ⟨rfl, rfl⟩
    clear q1
    go_wp2
    go_ret
    exact ⟨rfl, rfl⟩
end Dem
end Go.Proofs.YtagmkkddjdlncaaDoor
