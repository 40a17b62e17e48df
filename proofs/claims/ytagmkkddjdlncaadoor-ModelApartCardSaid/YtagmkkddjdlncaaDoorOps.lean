/- The op package's walk: Check. | The op package's walk: Asks, of a calloc that may be. -/
import Derived.Test.YtagmkkddjdlncaaDoorRec
import Derived.Test.YtagmkkddjdlncaaDoorClA
set_option linter.unusedVariables false
set_option linter.unusedSimpArgs false
/-! The op package's walk: Check. -/
namespace Go.Proofs.YtagmkkddjdlncaaDoor
open Go.RowKit Go.ChangeMaps
namespace Op1
/-- Whether an operation may be: 0, else 1. -/
def chk (o : XOp) : Int := if o.kind < 1 ∨ 11 < o.kind ∨ o.tenant < 0 ∨ 8 ≤ o.tenant then 1 else if 8192 < o.data.size ∨ (0 < o.data.size ∧ o.kind ≠ 10) then 1 else 0
set_option maxRecDepth 100000 in
set_option maxHeartbeats 1000000 in
theorem check_any (w : World) (o : XOp) (hd : o.data.size ≤ maxLen) : Calls Tryd.prog 15 #[.agg o.enc.toArray] w fun e w' => e = .returned (.int .i64 (chk o)) ∧ Keeps (fun _ => False) w w' := by
  obtain ⟨kind, tenant, n, m, handle, data⟩ := o
  dsimp only at hd
  unfold maxLen at hd
  obtain ⟨A, hA⟩ : ∃ A, w.heap.size = A := ⟨_, rfl⟩
  obtain ⟨w1, hw1⟩ : ∃ w1, w.alloc (.cells #[.int .i64 kind, .int .i64 tenant, .int .i64 n, .int .i64 m, .int .u64 handle, .string data] 34) = w1 := ⟨_, rfl⟩
  have k1 : Keeps (fun _ => False) w w1 := by rw [← hw1]; exact (Keeps.refl _ _).alloc _
  have ha1 : w1.heap[A]? = some (.cells #[.int .i64 kind, .int .i64 tenant, .int .i64 n, .int .i64 m, .int .u64 handle, .string data] 34 (0, 0)) := by rw [← hw1, ← hA]; exact alloc_new _ _
  have c0 := cell_of (v := .int .i64 kind) ha1 0 rfl
  have c1 := cell_of (v := .int .i64 tenant) ha1 1 rfl
  have c5 := cell_of (v := .string data) ha1 5 rfl
  have HK := Hid.of k1
  unfold XOp.enc
  dsimp only
  obtain ⟨z, hz⟩ : ∃ z, data.size = z := ⟨_, rfl⟩
  have hcase : kind < 1 ∨ (1 ≤ kind ∧ 11 < kind) ∨ (1 ≤ kind ∧ kind ≤ 11 ∧ tenant < 0) ∨ (1 ≤ kind ∧ kind ≤ 11 ∧ 0 ≤ tenant ∧ 8 ≤ tenant) ∨ (1 ≤ kind ∧ kind ≤ 11 ∧ 0 ≤ tenant ∧ tenant < 8 ∧ 8192 < z) ∨
    (1 ≤ kind ∧ kind ≤ 11 ∧ 0 ≤ tenant ∧ tenant < 8 ∧ z ≤ 8192 ∧ z = 0) ∨ (1 ≤ kind ∧ kind ≤ 11 ∧ 0 ≤ tenant ∧ tenant < 8 ∧ z ≤ 8192 ∧ 0 < z ∧ kind = 10) ∨ (1 ≤ kind ∧ kind ≤ 11 ∧ 0 ≤ tenant ∧ tenant < 8 ∧ z ≤ 8192 ∧ 0 < z ∧ kind ≠ 10) := by omega
  obtain ⟨R, hR⟩ : ∃ R, chk ⟨kind, tenant, n, m, handle, data⟩ = R := ⟨_, rfl⟩
  rw [hR]
  unfold chk at hR
  dsimp only at hR
  rw [hz] at hR hd
  clear k1 ha1
  rcases hcase with h1 | ⟨h1, h2⟩ | ⟨h1, h2, h3⟩ | ⟨h1, h2, h3, h4⟩ | ⟨h1, h2, h3, h4, h5⟩ | ⟨h1, h2, h3, h4, h5, h6⟩ | ⟨h1, h2, h3, h4, h5, h6, h7⟩ | ⟨h1, h2, h3, h4, h5, h6, h7⟩
  case inr.inr.inr.inr.inr.inr.inr =>
    rw [if_neg (by omega), if_pos (by omega)] at hR
    subst hR
    have e1 : decide (8192 < z) = false := by simp; omega
    have e2 : decide (0 < z) = true := by simp; omega
    have e3 : (kind != 10) = true := by simp; omega
    clear h7
    go_enter Tryd.func15, Tryd.ntmps15
    go_wp2
    go_ret
    exact ⟨rfl, HK.out⟩
  case inr.inr.inr.inr.inr.inr.inl =>
    rw [if_neg (by omega), if_neg (by omega)] at hR
    subst hR
    have e1 : decide (8192 < z) = false := by simp; omega
    have e2 : decide (0 < z) = true := by simp; omega
    have e3 : (kind != 10) = false := by simp; omega
    clear h7
    go_enter Tryd.func15, Tryd.ntmps15
    go_wp2
    go_ret
    exact ⟨rfl, HK.out⟩
  case inr.inr.inr.inr.inr.inl =>
    rw [if_neg (by omega), if_neg (by omega)] at hR
    subst hR
    have e1 : decide (8192 < z) = false := by simp; omega
    have e2 : decide (0 < z) = false := by simp; omega
    clear h6
    go_enter Tryd.func15, Tryd.ntmps15
    go_wp2
    go_ret
    exact ⟨rfl, HK.out⟩
  case inr.inr.inr.inr.inl =>
    rw [if_neg (by omega), if_pos (by omega)] at hR
    subst hR
    have e1 : decide (8192 < z) = true := by simp; omega
    go_enter Tryd.func15, Tryd.ntmps15
    go_wp2
    go_ret
    exact ⟨rfl, HK.out⟩
  all_goals
    rw [if_pos (by omega)] at hR
    subst hR
    go_enter Tryd.func15, Tryd.ntmps15
    go_wp2
    go_ret
    exact ⟨rfl, HK.out⟩
end Op1
end Go.Proofs.YtagmkkddjdlncaaDoor

/-! The op package's walk: Asks, of a calloc that may be. -/
namespace Go.Proofs.YtagmkkddjdlncaaDoor
open Go.RowKit Go.ChangeMaps
namespace Op1
theorem run_min_i {P : Program} (ts : Array TypeId) (ty : TypeId) (x y : Int) (w : World) : (Builtin.min_ ts ty #[.int .i64 x, .int .i64 y]).run P w = .ok (.int .i64 (if y < x then y else x)) w := by
  simp [Builtin.min_, Builtin.min2]
def prod (n m : Int) : Int := if 0 < n ∧ 0 < m ∧ n ≤ 8192 / m then n * m else 0
def asks (n m : Int) : Int := if Cl.kind (prod n m) < 0 then 0 else prod n m
set_option maxRecDepth 100000 in
set_option maxHeartbeats 1000000 in
theorem asks_any (w : World) (o : XOp) (hd : o.data.size ≤ maxLen) (h5 : o.kind = 5) (hc : chk o = 0) : Calls Tryd.prog 33 #[.agg o.enc.toArray] w fun e w' => e = .returned (.int .i64 (asks o.n o.m)) ∧ Keeps (fun _ => False) w w' := by
  have q := fun w => check_any w o hd
  rw [hc] at q
  obtain ⟨kind, tenant, n, m, handle, data⟩ := o
  dsimp only at hd h5
  subst h5
  obtain ⟨A, hA⟩ : ∃ A, w.heap.size = A := ⟨_, rfl⟩
  obtain ⟨w1, hw1⟩ : ∃ w1, w.alloc (.cells #[.int .i64 5, .int .i64 tenant, .int .i64 n, .int .i64 m, .int .u64 handle, .string data] 34) = w1 := ⟨_, rfl⟩
  have k1 : Keeps (fun _ => False) w w1 := by rw [← hw1]; exact (Keeps.refl _ _).alloc _
  have ha1 : w1.heap[A]? = some (.cells #[.int .i64 5, .int .i64 tenant, .int .i64 n, .int .i64 m, .int .u64 handle, .string data] 34 (0, 0)) := by rw [← hw1, ← hA]; exact alloc_new _ _
  have c0 := cell_of (v := .int .i64 5) ha1 0 rfl
  have c2 := cell_of (v := .int .i64 n) ha1 2 rfl
  have c3 := cell_of (v := .int .i64 m) ha1 3 rfl
  have HK := Hid.of (And.intro k1 ha1)
  unfold XOp.enc at q ⊢
  dsimp only at q ⊢
  have hm := fun ts ty w => run_min_i (P := Tryd.prog) ts ty n m w
  obtain ⟨mn, hmn⟩ : ∃ z, (if m < n then m else n) = z := ⟨_, rfl⟩
  rw [hmn] at hm
  have qk := fun w => Cl.of_any w (prod n m)
  unfold asks
  obtain ⟨X, hX⟩ : ∃ X, prod n m = X := ⟨_, rfl⟩
  rw [hX] at qk ⊢
  unfold prod at hX
  have hk : (∃ K, Cl.kind X = K ∧ K < 0) ∨ (∃ K, Cl.kind X = K ∧ ¬ K < 0) := by
    by_cases h : Cl.kind X < 0
    · exact .inl ⟨_, rfl, h⟩
    · exact .inr ⟨_, rfl, h⟩
  have hcase : mn ≤ 0 ∨ (0 < n ∧ 0 < m ∧ ¬ n ≤ 8192 / m) ∨ (0 < n ∧ 0 < m ∧ n ≤ 8192 / m) := by
    by_cases h : 0 < n ∧ 0 < m
    · by_cases h2 : n ≤ 8192 / m
      · exact .inr (.inr ⟨h.1, h.2, h2⟩)
      · exact .inr (.inl ⟨h.1, h.2, h2⟩)
    · left; split at hmn <;> omega
  clear k1 ha1
  rcases hcase with h1 | ⟨h1, h2, h3⟩ | ⟨h1, h2, h3⟩
  case inl =>
    rw [if_neg (by split at hmn <;> omega)] at hX
    subst hX
    have t1 : decide (0 < mn) = false := by simp; omega
    clear hmn
    rcases hk with ⟨K, hK, h⟩ | ⟨K, hK, h⟩
    case' inl => rw [hK, if_pos h]; rw [hK] at qk; have tk : decide (K < 0) = true := by simpa using h
    case' inr => rw [hK, if_neg h]; rw [hK] at qk; have tk : decide (K < 0) = false := by simpa using h
    all_goals
      clear h hK
      go_enter Tryd.func33, Tryd.ntmps33
      go_wp2
      go_region
      obtain ⟨w2, hw2⟩ : ∃ w2, w1.drew = w2 := ⟨_, rfl⟩
      rw [hw2]
      have k2 : Keeps (fun _ => False) w w2 := by rw [← hw2]; exact HK.out.1.drew
      have ha2 : w2.heap[A]? = some (.cells #[.int .i64 5, .int .i64 tenant, .int .i64 n, .int .i64 m, .int .u64 handle, .string data] 34 (0, 0)) := by rw [← hw2]; exact HK.out.2
      have d0 := cell_of (v := .int .i64 5) ha2 0 rfl
      have d1 := cell_of (v := .int .i64 tenant) ha2 1 rfl
      have d2 := cell_of (v := .int .i64 n) ha2 2 rfl
      have d3 := cell_of (v := .int .i64 m) ha2 3 rfl
      have d4 := cell_of (v := .int .u64 handle) ha2 4 rfl
      have d5 := cell_of (v := .string data) ha2 5 rfl
      have qq := q w2
      have HK2 := Hid.of k2
      clear c0 c2 c3 hm q hw2 k2 ha2
      go_wp2_with fail
      refine qq.mono ?_
      rintro e w3 ⟨rfl, k3⟩
      have q3 := qk w3
      have HK3 := Hid.of (HK2.out.trans k3)
      clear qq k3 d0 d1 d2 d3 d4 d5 qk
      go_wp2_with fail
      refine q3.mono ?_
      rintro e w4 ⟨rfl, rfl⟩
      clear q3
      go_wp2
      go_ret
      exact ⟨rfl, HK3.out⟩
  case inr.inl =>
    rw [if_neg (by omega)] at hX
    subst hX
    have t1 : decide (0 < mn) = true := by simp; split at hmn <;> omega
    have ht : (8192 : Int).tdiv m = 8192 / m := Int.tdiv_eq_ediv_of_nonneg (by omega)
    have hD : 0 ≤ 8192 / m ∧ 8192 / m ≤ 8192 := ⟨Int.ediv_nonneg (by omega) (by omega), Int.ediv_le_self _ (by omega)⟩
    obtain ⟨D, hDD⟩ : ∃ D, 8192 / m = D := ⟨_, rfl⟩
    rw [hDD] at ht hD h3
    have hw : IntKind.i64.wrap D = D := IntWalk.i64_in _ (by omega)
    have t2 : decide (n ≤ D) = false := by simpa using h3
    have m0 : (m == 0) = false := by simp; omega
    clear hmn hDD
    rcases hk with ⟨K, hK, h⟩ | ⟨K, hK, h⟩
    case' inl => rw [hK, if_pos h]; rw [hK] at qk; have tk : decide (K < 0) = true := by simpa using h
    case' inr => rw [hK, if_neg h]; rw [hK] at qk; have tk : decide (K < 0) = false := by simpa using h
    all_goals
      clear h hK
      go_enter Tryd.func33, Tryd.ntmps33
      go_wp2
      go_region
      obtain ⟨w2, hw2⟩ : ∃ w2, w1.drew = w2 := ⟨_, rfl⟩
      rw [hw2]
      have k2 : Keeps (fun _ => False) w w2 := by rw [← hw2]; exact HK.out.1.drew
      have ha2 : w2.heap[A]? = some (.cells #[.int .i64 5, .int .i64 tenant, .int .i64 n, .int .i64 m, .int .u64 handle, .string data] 34 (0, 0)) := by rw [← hw2]; exact HK.out.2
      have d0 := cell_of (v := .int .i64 5) ha2 0 rfl
      have d1 := cell_of (v := .int .i64 tenant) ha2 1 rfl
      have d2 := cell_of (v := .int .i64 n) ha2 2 rfl
      have d3 := cell_of (v := .int .i64 m) ha2 3 rfl
      have d4 := cell_of (v := .int .u64 handle) ha2 4 rfl
      have d5 := cell_of (v := .string data) ha2 5 rfl
      have qq := q w2
      have HK2 := Hid.of k2
      clear c0 c2 c3 hm q hw2 k2 ha2
      go_wp2_with fail
      refine qq.mono ?_
      rintro e w3 ⟨rfl, k3⟩
      have q3 := qk w3
      have HK3 := Hid.of (HK2.out.trans k3)
      clear qq k3 d0 d1 d2 d3 d4 d5 qk
      go_wp2_with fail
      refine q3.mono ?_
      rintro e w4 ⟨rfl, rfl⟩
      clear q3
      go_wp2
      go_ret
      exact ⟨rfl, HK3.out⟩
  case inr.inr =>
    rw [if_pos ⟨h1, h2, h3⟩] at hX
    have t1 : decide (0 < mn) = true := by simp; split at hmn <;> omega
    have ht : (8192 : Int).tdiv m = 8192 / m := Int.tdiv_eq_ediv_of_nonneg (by omega)
    have hD : 0 ≤ 8192 / m ∧ 8192 / m ≤ 8192 := ⟨Int.ediv_nonneg (by omega) (by omega), Int.ediv_le_self _ (by omega)⟩
    have hX1 : X ≤ 8192 := by rw [← hX]; exact Int.le_trans (Int.mul_le_mul_of_nonneg_right h3 (by omega)) (Int.ediv_mul_le _ (by omega))
    have hX0 : 0 ≤ X := by rw [← hX]; exact Int.mul_nonneg (by omega) (by omega)
    obtain ⟨D, hDD⟩ : ∃ D, 8192 / m = D := ⟨_, rfl⟩
    rw [hDD] at ht hD h3
    have hw : IntKind.i64.wrap D = D := IntWalk.i64_in _ (by omega)
    have t2 : decide (n ≤ D) = true := by simpa using h3
    have m0 : (m == 0) = false := by simp; omega
    have hwX : wrap64 X = X := by unfold wrap64; omega
    clear hmn hDD
    rcases hk with ⟨K, hK, h⟩ | ⟨K, hK, h⟩
    case' inl => rw [hK, if_pos h]; rw [hK] at qk; have tk : decide (K < 0) = true := by simpa using h
    case' inr => rw [hK, if_neg h]; rw [hK] at qk; have tk : decide (K < 0) = false := by simpa using h
    all_goals
      clear h hK
      go_enter Tryd.func33, Tryd.ntmps33
      go_wp2
      go_region
      obtain ⟨w2, hw2⟩ : ∃ w2, w1.drew = w2 := ⟨_, rfl⟩
      rw [hw2]
      have k2 : Keeps (fun _ => False) w w2 := by rw [← hw2]; exact HK.out.1.drew
      have ha2 : w2.heap[A]? = some (.cells #[.int .i64 5, .int .i64 tenant, .int .i64 n, .int .i64 m, .int .u64 handle, .string data] 34 (0, 0)) := by rw [← hw2]; exact HK.out.2
      have d0 := cell_of (v := .int .i64 5) ha2 0 rfl
      have d1 := cell_of (v := .int .i64 tenant) ha2 1 rfl
      have d2 := cell_of (v := .int .i64 n) ha2 2 rfl
      have d3 := cell_of (v := .int .i64 m) ha2 3 rfl
      have d4 := cell_of (v := .int .u64 handle) ha2 4 rfl
      have d5 := cell_of (v := .string data) ha2 5 rfl
      have qq := q w2
      have HK2 := Hid.of k2
      clear c0 c2 c3 hm q hw2 k2 ha2 hw ht t1 t2
      go_wp2_with fail
      refine qq.mono ?_
      rintro e w3 ⟨rfl, k3⟩
      have q3 := qk w3
      have HK3 := Hid.of (HK2.out.trans k3)
      clear qq k3 d0 d1 d2 d3 d4 d5 qk
      go_wp2_with fail
      refine q3.mono ?_
      rintro e w4 ⟨rfl, rfl⟩
      clear q3
      go_wp2
      go_ret
      exact ⟨rfl, HK3.out⟩
end Op1
end Go.Proofs.YtagmkkddjdlncaaDoor
