/- The class package's walks: within, small, Pages, Unit, Per; its plain numbers. -/
import Derived.Test.YtnheibcjcgacpaaGreatDoorRows
import Derived.Test.YtnheibcjcgacpaaGreatDoorRd
import Derived.Test.YtnheibcjcgacpaaGreatDoorOut
import Derived.Test.YtnheibcjcgacpaaGreatDoorShP
import Derived.Laws.Bits64b
import Derived.Laws.BitsAllLaws
import Derived.Shelf.Spec.TrailingZeros
import Derived.WalkSpells
import Derived.WalkLawsBesides
import Derived.BigQuiet
import Derived.BigRegion
import Derived.Deep.QuietTactic
set_option linter.unusedVariables false
set_option linter.unusedSimpArgs false
namespace Go.Proofs.YtnheibcjcgacpaaGreatDoor
open Go.RowKit Go.ChangeMaps
theorem run_max_int {P : Program} (ts : Array TypeId) (ty : TypeId) (x y : Int) (w : World) : (Builtin.max_ ts ty #[.int .i64 x, .int .i64 y]).run P w = .ok (.int .i64 (if x < y then y else x)) w := by
  simp [Builtin.max_, Builtin.max2]
namespace Cl
/-- A small kind's bytes. -/
def sm (c : Nat) : Nat := [16, 32, 48, 64, 96, 128, 192, 256].getD c 0
theorem eight_cases {c : Nat} (h : c < 8) : c = 0 ∨ c = 1 ∨ c = 2 ∨ c = 3 ∨ c = 4 ∨ c = 5 ∨ c = 6 ∨ c = 7 := by omega
/-- A kind's bytes. -/
def unit (c : Int) : Int := if 0 ≤ c ∧ c < 24 then (if c < 8 then (sm c.toNat : Int) else (c - 7) * 512) else 0
/-- The kind for so many bytes. -/
def kind (n : Int) : Int := if n < 1 ∨ 8192 < n then -1 else if 256 < n then 8 + (n - 1) / 512 else if n ≤ 16 then 0 else if n ≤ 32 then 1 else if n ≤ 48 then 2 else if n ≤ 64 then 3 else if n ≤ 96 then 4 else if n ≤ 128 then 5 else if n ≤ 192 then 6 else 7
def charge (n : Int) : Int := unit (kind n)
def per (c : Int) : Int := if 0 ≤ c ∧ c < 8 then 512 / (sm c.toNat : Int) else 0
set_option maxRecDepth 100000 in
theorem within_any (w : World) (c : Int) : Calls Tryz.prog 192 #[.int .i64 c] w fun e w' => e = .returned (.bool (decide (0 ≤ c ∧ c < 24))) ∧ w = w' := by
  by_cases h1 : 0 ≤ c
  · by_cases h2 : c < 24
    · have e : decide (0 ≤ c ∧ c < 24) = true := by simp; omega
      rw [e]; clear e
      go_enter Tryz.func192, Tryz.ntmps192
      go_wp2
      go_ret
      exact ⟨rfl, rfl⟩
    · have e : decide (0 ≤ c ∧ c < 24) = false := by simp; omega
      rw [e]; clear e
      go_enter Tryz.func192, Tryz.ntmps192
      go_wp2
      go_ret
      exact ⟨rfl, rfl⟩
  · have e : decide (0 ≤ c ∧ c < 24) = false := by simp; omega
    rw [e]; clear e
    go_enter Tryz.func192, Tryz.ntmps192
    go_wp2
    go_ret
    exact ⟨rfl, rfl⟩
set_option maxRecDepth 100000 in
theorem small_any (w : World) (c : Nat) (h : c < 8) : Calls Tryz.prog 129 #[.int .i64 c] w fun e w' => e = .returned (.int .i64 (sm c)) ∧ w = w' := by
  rcases eight_cases h with rfl | rfl | rfl | rfl | rfl | rfl | rfl | rfl
  all_goals
    go_enter Tryz.func129, Tryz.ntmps129
    go_wp2
    go_ret
    exact ⟨rfl, rfl⟩
set_option maxRecDepth 100000 in
def ofFrame (x0 x3 : Value) (u : Nat → Value) : Act := { tmps := #[x0, u 1, u 2, x3, u 4, u 5, u 6, u 7, u 8, u 9, u 10, u 11, u 12, u 13, u 14, u 15, u 16, u 17, u 18, u 19, u 20, u 21, u 22], defers := [] }
set_option maxRecDepth 100000 in
theorem ofFrame_is (v0 v1 v2 v3 v4 v5 v6 v7 v8 v9 v10 v11 v12 v13 v14 v15 v16 v17 v18 v19 v20 v21 v22 : Value) : ({ tmps := #[v0, v1, v2, v3, v4, v5, v6, v7, v8, v9, v10, v11, v12, v13, v14, v15, v16, v17, v18, v19, v20, v21, v22], defers := [] } : Act) = ofFrame v0 v3 (fun i => #[v0, v1, v2, v3, v4, v5, v6, v7, v8, v9, v10, v11, v12, v13, v14, v15, v16, v17, v18, v19, v20, v21, v22].getD i undef) := rfl
/-- Kinds of small blocks: the least one that has room. -/
theorem kind_small {n : Int} {c : Nat} (h1 : 1 ≤ n) (h2 : n ≤ 256) (hc : c < 8) (hb : ∀ j, j < c → (sm j : Int) < n) (hn : n ≤ (sm c : Int)) : kind n = c := by
  have b0 := hb 0; have b1 := hb 1; have b2 := hb 2; have b3 := hb 3; have b4 := hb 4; have b5 := hb 5; have b6 := hb 6
  unfold kind
  rw [if_neg (by omega), if_neg (by omega)]
  rcases eight_cases hc with rfl | rfl | rfl | rfl | rfl | rfl | rfl | rfl <;> simp [sm] at * <;> (repeat' split) <;> omega
set_option maxRecDepth 100000 in
theorem of_small (w : World) (n : Int) (h1 : 1 ≤ n) (h2 : n ≤ 256) : Calls Tryz.prog 47 #[.int .i64 n] w fun e w' => e = .returned (.int .i64 (kind n)) ∧ w = w' := by
  obtain ⟨K, hK⟩ : ∃ K, kind n = K := ⟨_, rfl⟩
  rw [hK]
  have HK := Hid.of hK
  clear hK
  go_enter Tryz.func47, Tryz.ntmps47
  go_wp2
  refine wp_scope_once 1 (fun m a' w' => ∃ (c : Nat) (u : Nat → Value), m = 8 - c ∧ c < 8 ∧ a' = ofFrame (.int .i64 n) (.int .i64 c) u ∧ Hid (∀ j, j < c → (sm j : Int) < n) ∧ w' = w) rfl ?_ ?_
  · rintro m a' w' ⟨c, u, rfl, hc, hf, HB, hw⟩
    unfold ofFrame at hf
    subst hf
    subst hw
    have q := small_any w' c hc
    obtain ⟨x, hx⟩ : ∃ x, (sm c : Int) = x := ⟨_, rfl⟩
    rw [hx] at q
    have HX := Hid.of hx
    by_cases hlt : x < n
    · have hc7 : c < 7 := by
        rcases Nat.lt_or_ge c 7 with h | h
        · exact h
        · exfalso
          have : c = 7 := by omega
          subst this
          have : x = 256 := by rw [← hx]; rfl
          omega
      clear hx
      go_wp2_with fail
      refine q.mono ?_
      rintro e w1 ⟨rfl, rfl⟩
      clear q
      go_wp2
      go_step3
      rw [show ((c : Int) + 1) = ((c + 1 : Nat) : Int) by omega]
      refine ⟨rfl, 8 - (c + 1), by omega, c + 1, _, rfl, by omega, ofFrame_is .., Hid.of (fun j hj => ?_), rfl⟩
      by_cases e : j = c
      · rw [e, HX.out]; exact hlt
      · exact HB.out j (by omega)
    · have HL : Hid (K = c) := Hid.of (by rw [← HK.out]; exact kind_small h1 h2 hc HB.out (by rw [hx]; omega))
      clear hx
      go_wp2_with fail
      refine q.mono ?_
      rintro e w1 ⟨rfl, rfl⟩
      clear q
      go_wp2
      simp only [Exit.jump]
      go_ret
      exact ⟨by rw [HL.out]; rfl, rfl⟩
  · intro hr
    go_wp2
    go_step3
    refine (by assumption : ∀ (a : Act) (w : World), Code.wp _ _ _ a w → _) _ _ ?_
    exact hr _ _ _ ⟨0, _, rfl, by omega, ofFrame_is .., Hid.of (fun j hj => by omega), rfl⟩
set_option maxRecDepth 100000 in
theorem of_big (w : World) (n : Int) (h1 : 256 < n) (h2 : n ≤ 8192) : Calls Tryz.prog 47 #[.int .i64 n] w fun e w' => e = .returned (.int .i64 (kind n)) ∧ w = w' := by
  have hK : kind n = 8 + (n - 1) / 512 := by unfold kind; rw [if_neg (by omega), if_pos (by omega)]
  have ht : (n - 1).tdiv 512 = (n - 1) / 512 := Int.tdiv_eq_ediv_of_nonneg (by omega)
  obtain ⟨K, hKK⟩ : ∃ K, (n - 1) / 512 = K := ⟨_, rfl⟩
  rw [hKK] at ht hK
  have hK2 : 0 ≤ K ∧ K < 16 := by omega
  rw [hK]
  clear hK hKK
  go_enter Tryz.func47, Tryz.ntmps47
  go_wp2
  refine wp_scope_once 0 (fun m a' w' => ∃ (c : Value) (u : Nat → Value), a' = ofFrame (.int .i64 n) c u ∧ w' = w) rfl ?_ ?_
  · rintro m a' w' ⟨c, u, hf, hw⟩
    unfold ofFrame at hf
    subst hf
    subst hw
    go_wp2
    simp only [Exit.jump]
    go_ret
    exact ⟨rfl, rfl⟩
  · intro hr
    go_wp2
    go_step3
    exact ⟨rfl, 0, _, _, ofFrame_is .., rfl⟩
set_option maxRecDepth 100000 in
theorem of_none (w : World) (n : Int) (h : n < 1 ∨ 8192 < n) : Calls Tryz.prog 47 #[.int .i64 n] w fun e w' => e = .returned (.int .i64 (kind n)) ∧ w = w' := by
  have hK : kind n = -1 := by unfold kind; rw [if_pos h]
  rw [hK]
  clear hK
  by_cases h1 : n < 1
  · clear h
    go_enter Tryz.func47, Tryz.ntmps47
    go_wp2
    refine wp_scope_straight ?_
    go_wp2
    simp only [Exit.noGoto]
    go_ret
    exact ⟨rfl, rfl⟩
  · have h2 : 8192 < n := by omega
    clear h
    go_enter Tryz.func47, Tryz.ntmps47
    go_wp2
    refine wp_scope_straight ?_
    go_wp2
    simp only [Exit.noGoto]
    go_ret
    exact ⟨rfl, rfl⟩
theorem of_any (w : World) (n : Int) : Calls Tryz.prog 47 #[.int .i64 n] w fun e w' => e = .returned (.int .i64 (kind n)) ∧ w = w' := by
  by_cases h : n < 1 ∨ 8192 < n
  · exact of_none w n h
  · by_cases h2 : n ≤ 256
    · exact of_small w n (by omega) h2
    · exact of_big w n (by omega) (by omega)
theorem sm_pos {c : Nat} (h : c < 8) : 16 ≤ sm c ∧ sm c ≤ 256 := by
  rcases eight_cases h with rfl | rfl | rfl | rfl | rfl | rfl | rfl | rfl <;> simp [sm]
set_option maxRecDepth 100000 in
theorem pages_run (w : World) (c : Int) (h1 : 8 ≤ c) (h2 : c < 24) : Calls Tryz.prog 179 #[.int .i64 c] w fun e w' => e = .returned (.int .i64 (c - 7)) ∧ w = w' := by
  have q := within_any w c
  rw [show decide (0 ≤ c ∧ c < 24) = true by simp; omega] at q
  have hm := fun ts ty w => run_max_int (P := Tryz.prog) ts ty 1 (c - 8 + 1) w
  have hi : (if (1 : Int) < c - 8 + 1 then c - 8 + 1 else 1) = c - 7 := by split <;> omega
  rw [hi] at hm
  go_enter Tryz.func179, Tryz.ntmps179
  go_wp2_with fail
  refine q.mono ?_
  rintro e w1 ⟨rfl, rfl⟩
  clear q hi
  go_wp2
  go_ret
  exact ⟨rfl, rfl⟩
set_option maxRecDepth 100000 in
theorem unit_any (w : World) (c : Int) : Calls Tryz.prog 96 #[.int .i64 c] w fun e w' => e = .returned (.int .i64 (unit c)) ∧ w = w' := by
  have q := within_any w c
  by_cases h : 0 ≤ c ∧ c < 24
  · rw [show decide (0 ≤ c ∧ c < 24) = true by simpa using h] at q
    by_cases h8 : c < 8
    · obtain ⟨c, rfl⟩ : ∃ k : Nat, c = k := ⟨c.toNat, by omega⟩
      have hu : unit c = (sm c : Int) := by unfold unit; rw [if_pos h, if_pos h8, Int.toNat_natCast]
      have q2 := small_any w c (by omega)
      rw [hu]
      obtain ⟨x, hx⟩ : ∃ x, (sm c : Int) = x := ⟨_, rfl⟩
      rw [hx] at q2 ⊢
      clear hu hx h
      go_enter Tryz.func96, Tryz.ntmps96
      go_wp2_with fail
      refine q.mono ?_
      rintro e w1 ⟨rfl, rfl⟩
      clear q
      go_wp2_with fail
      refine q2.mono ?_
      rintro e w1 ⟨rfl, rfl⟩
      clear q2
      go_wp2
      go_ret
      exact ⟨rfl, rfl⟩
    · have hu : unit c = (c - 7) * 512 := by unfold unit; rw [if_pos h, if_neg h8]
      have q2 := pages_run w c (by omega) (by omega)
      rw [hu]
      clear hu
      go_enter Tryz.func96, Tryz.ntmps96
      go_wp2_with fail
      refine q.mono ?_
      rintro e w1 ⟨rfl, rfl⟩
      clear q
      go_wp2_with fail
      refine q2.mono ?_
      rintro e w1 ⟨rfl, rfl⟩
      clear q2
      go_wp2
      go_ret
      exact ⟨rfl, rfl⟩
  · rw [show decide (0 ≤ c ∧ c < 24) = false by simpa using h] at q
    have hu : unit c = 0 := by unfold unit; rw [if_neg h]
    rw [hu]
    clear hu h
    go_enter Tryz.func96, Tryz.ntmps96
    go_wp2_with fail
    refine q.mono ?_
    rintro e w1 ⟨rfl, rfl⟩
    clear q
    go_wp2
    go_ret
    exact ⟨rfl, rfl⟩
set_option maxRecDepth 100000 in
theorem charge_any (w : World) (n : Int) : Calls Tryz.prog 158 #[.int .i64 n] w fun e w' => e = .returned (.int .i64 (charge n)) ∧ w = w' := by
  have q := of_any w n
  have q2 := unit_any w (kind n)
  unfold charge
  generalize unit (kind n) = x at *
  generalize kind n = y at *
  go_enter Tryz.func158, Tryz.ntmps158
  go_wp2_with fail
  refine q.mono ?_
  rintro e w1 ⟨rfl, rfl⟩
  clear q
  go_wp2_with fail
  refine q2.mono ?_
  rintro e w1 ⟨rfl, rfl⟩
  clear q2
  go_wp2
  go_ret
  exact ⟨rfl, rfl⟩
set_option maxRecDepth 100000 in
theorem per_small (w : World) (c : Nat) (h : c < 8) : Calls Tryz.prog 93 #[.int .i64 c] w fun e w' => e = .returned (.int .i64 (per c)) ∧ w = w' := by
  have q := within_any w c
  rw [show decide (0 ≤ (c : Int) ∧ (c : Int) < 24) = true by simp; omega] at q
  have q2 := small_any w c h
  have hp : per c = 512 / (sm c : Int) := by unfold per; rw [if_pos (by omega), Int.toNat_natCast]
  have hs := sm_pos h
  have ht : (512 : Int).tdiv (sm c : Int) = 512 / (sm c : Int) := Int.tdiv_eq_ediv_of_nonneg (by omega)
  have hd : 0 ≤ 512 / (sm c : Int) ∧ 512 / (sm c : Int) ≤ 512 := ⟨Int.ediv_nonneg (by omega) (by omega), Int.ediv_le_self _ (by omega)⟩
  rw [hp]
  obtain ⟨y, hy⟩ : ∃ y, 512 / (sm c : Int) = y := ⟨_, rfl⟩
  rw [hy] at ht hd ⊢
  obtain ⟨x, hx⟩ : ∃ x, (sm c : Int) = x := ⟨_, rfl⟩
  rw [hx] at q2 ht
  have hx0 : 16 ≤ x ∧ x ≤ 256 := by omega
  have hci : (c : Int) < 8 := by omega
  clear hp hs hy hx
  go_enter Tryz.func93, Tryz.ntmps93
  go_wp2_with fail
  refine q.mono ?_
  rintro e w1 ⟨rfl, rfl⟩
  clear q
  go_wp2_with fail
  refine q2.mono ?_
  rintro e w1 ⟨rfl, rfl⟩
  clear q2
  go_wp2
  go_ret
  exact ⟨rfl, rfl⟩
end Cl
end Go.Proofs.YtnheibcjcgacpaaGreatDoor
