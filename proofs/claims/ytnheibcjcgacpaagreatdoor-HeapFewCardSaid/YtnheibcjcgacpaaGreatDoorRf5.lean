/- The document's charge (garthref03) and its pages for a quota (garthref05). -/
import Derived.Test.YtnheibcjcgacpaaGreatDoorRf3
set_option linter.unusedVariables false
set_option linter.unusedSimpArgs false
namespace Go.Proofs.YtnheibcjcgacpaaGreatDoor
open Go.RowKit Go.ChangeMaps
namespace Rf
open Pc
open Cl hiding per
set_option maxRecDepth 100000 in
theorem charge_bad (w : World) (n : Int) (h : kind n = -1) : Calls Tryz.prog 19 #[.int .i64 n] w (KI w (.int .i64 0)) := by
  have q := of_any w n
  unfold KI at q
  rw [h] at q
  clear h
  go_enter Tryz.func19, Tryz.ntmps19
  go_wp2_with fail
  refine q.mono ?_
  rintro e w1 ⟨rfl, k1⟩
  have HK := Hid.of k1
  clear q k1
  go_wp2
  go_ret
  exact ⟨rfl, HK.out⟩
set_option maxRecDepth 100000 in
theorem charge_any (w : World) (n : Int) (c : Nat) (hc : c < 24) (h : kind n = (c : Int)) : Calls Tryz.prog 19 #[.int .i64 n] w (KI w (.int .i64 (un c))) := by
  have q := of_any w n
  unfold KI at q
  rw [h] at q
  have q2 := fun w' => of_any w' n
  unfold KI at q2
  rw [h] at q2
  have q3 := fun w' => unit_any w' c hc
  unfold KI at q3
  have t1 : decide ((c : Int) < 0) = false := by simp
  generalize un c = u at *
  clear h hc
  go_enter Tryz.func19, Tryz.ntmps19
  go_wp2_with fail
  refine q.mono ?_
  rintro e w1 ⟨rfl, k1⟩
  have HK := Hid.of k1
  have q2' := q2 w1
  clear q q2 k1
  go_wp2_with fail
  refine q2'.mono ?_
  rintro e w2 ⟨rfl, k2⟩
  have HK2 := Hid.of (HK.out.trans k2)
  have q3' := q3 w2
  clear q2' q3 k2
  go_wp2_with fail
  refine q3'.mono ?_
  rintro e w3 ⟨rfl, k3⟩
  have HK3 := Hid.of (HK2.out.trans k3)
  clear q3' k3
  go_wp2
  go_ret
  exact ⟨rfl, HK3.out⟩
def mayQ (q : Int) : Bool := decide (1 ≤ q) && decide (q ≤ 65536)
set_option maxRecDepth 100000 in
theorem may_any (w : World) (q : Int) : Calls Tryz.prog 18 #[.int .i64 q] w fun e w' => e = .returned (.bool (mayQ q)) ∧ w = w' := by
  unfold mayQ
  cases h1 : decide ((1 : Int) ≤ q) with
  | false =>
    rw [Bool.false_and]
    go_enter Tryz.func18, Tryz.ntmps18
    go_wp2
    go_ret
    exact ⟨rfl, rfl⟩
  | true =>
    rw [Bool.true_and]
    cases h2 : decide (q ≤ 65536) <;>
    · go_enter Tryz.func18, Tryz.ntmps18
      go_wp2
      go_ret
      exact ⟨rfl, rfl⟩
/-- So many pages of a small kind a quota takes. -/
def byN (c q : Nat) : Nat := (q / un c + per c - 1) / per c
theorem byN_lt {c q i : Nat} (h : c < 8) : i * per c < q / un c ↔ i < byN c q := by
  have hp := (per_range h).1
  unfold byN
  generalize q / un c = k
  generalize per c = p at hp ⊢
  generalize hm : i * p = m
  have h1 : i < (k + p - 1) / p ↔ (i + 1) * p ≤ k + p - 1 := by rw [Nat.lt_iff_add_one_le, Nat.le_div_iff_mul_le (by omega)]
  rw [h1, Nat.add_mul, Nat.one_mul, hm]
  omega
theorem byN_le {c q : Nat} (h : c < 8) (hq : q ≤ 65536) : byN c q ≤ 4096 ∧ q / un c ≤ 4096 := by
  have hu := (un_range (c := c) (by omega)).1
  have h1 : q / un c ≤ 4096 := by
    have h2 : q / un c ≤ q / 16 := Nat.div_le_div_left (a := q) hu (by omega)
    omega
  refine ⟨?_, h1⟩
  have hp := (per_range h).1
  unfold byN
  generalize q / un c = k at h1 ⊢
  generalize per c = p at hp ⊢
  have h3 : k + p - 1 ≤ p * 4096 := by
    obtain ⟨d, rfl⟩ : ∃ d, p = d + 1 := ⟨p - 1, by omega⟩
    rw [Nat.add_mul]; omega
  exact Nat.div_le_of_le_mul h3
theorem sum_fits {a b : Nat} (h : a + b ≤ 200000) : wrap64 ((a : Int) + (b : Int)) = ((a + b : Nat) : Int) ∧ IntKind.i64.wrap ((a : Int) + (b : Int)) = ((a + b : Nat) : Int) := by
  constructor
  · unfold wrap64; omega
  · rw [IntWalk.i64_in _ (by omega)]; omega
theorem mul_fits {i p : Nat} (h1 : i ≤ 4096) (h2 : p ≤ 32) : i * p ≤ 131072 := Nat.le_trans (Nat.mul_le_mul h1 h2) (by omega)
set_option maxRecDepth 100000 in
set_option maxHeartbeats 1000000 in
theorem by_any (w : World) (c q : Nat) (h : c < 8) (hq : 1 ≤ q ∧ q ≤ 65536) : Calls Tryz.prog 101 #[.int .i64 c, .int .i64 q] w (KI w (.int .i64 (byN c q))) := by
  have q1 := may_any w q
  have hm : mayQ (q : Int) = true := by unfold mayQ; simp; omega
  rw [hm] at q1
  have q2 := unit_any w c (by omega)
  unfold KI at q2
  have hr := un_range (c := c) (by omega)
  obtain ⟨hb1, hb2⟩ := byN_le (c := c) h hq.2
  have HL := Hid.of (fun i => byN_lt (c := c) (q := q) (i := i) h)
  have HP := Hid.of (And.intro (per_range h) (And.intro hb1 h))
  obtain ⟨B, hB⟩ : ∃ B, byN c q = B := ⟨_, rfl⟩
  rw [hB] at HL HP ⊢
  obtain ⟨u, hu⟩ : ∃ u, un c = u := ⟨_, rfl⟩
  rw [hu] at q2 HL hr hb2
  have t1 : decide ((c : Int) < 0) = false := by simp
  have t2 : decide ((7 : Int) < (c : Int)) = false := by simp; omega
  have t2' : decide (7 < c) = false := by simp; omega
  have f1 : ¬ u = 0 := by omega
  have f2 : ((u : Int) == 0) = false := by simp; omega
  have f3 : ¬ (u : Int) = 0 := by omega
  have e1 : (q : Int).tdiv (u : Int) = ((q / u : Nat) : Int) := by rw [Int.tdiv_eq_ediv_of_nonneg (by omega)]; rfl
  have e1' : (q : Int) / (u : Int) = ((q / u : Nat) : Int) := rfl
  obtain ⟨k, hk⟩ : ∃ k, q / u = k := ⟨_, rfl⟩
  rw [hk] at e1 e1' HL hb2
  have i1 : wrap64 (k : Int) = k := by unfold wrap64; omega
  have i2 : IntKind.i64.wrap (k : Int) = k := IntWalk.i64_in _ (by omega)
  clear hm hr hb1 hb2 hB hu hk h hq
  go_enter Tryz.func101, Tryz.ntmps101
  go_wp2_with fail
  refine q1.mono ?_
  rintro e w1 ⟨rfl, rfl⟩
  clear q1
  go_wp2_with fail
  refine q2.mono ?_
  rintro e w1 ⟨rfl, k1⟩
  have HK := Hid.of k1
  clear q2 k1
  go_wp2_with fail
  clear f1 f2 f3 e1 e1' t1 t2 t2'
  go_loopw [6] (fun i wr => ∃ n : Nat, n ≤ B ∧ i = .int .i64 n ∧ Keeps (fun _ => False) w wr) (fun i _ => B - (intOf i).toNat)
  case atStart => exact ⟨0, by omega, rfl, HK.out⟩
  case round =>
    obtain ⟨n, hn, rfl, hK⟩ := hrel
    have HK2 := Hid.of hK
    have q3 := per_any wr c HP.out.2.2
    unfold KI at q3
    have hpr := HP.out.1
    have hlt := HL.out n
    have hB4 := HP.out.2.1
    obtain ⟨p, hp⟩ : ∃ p, per c = p := ⟨_, rfl⟩
    rw [hp] at q3 hpr hlt
    have hf := mul_fits (i := n) (p := p) (by omega) hpr.2
    have e2 : (n : Int) * (p : Int) = ((n * p : Nat) : Int) := by simp
    obtain ⟨m, hm⟩ : ∃ m, n * p = m := ⟨_, rfl⟩
    rw [hm] at hf e2 hlt
    have i3 : wrap64 (m : Int) = m := by unfold wrap64; omega
    have i4 : IntKind.i64.wrap (m : Int) = m := IntWalk.i64_in _ (by omega)
    clear hK hp hm hf hpr
    by_cases hl : n < B
    · have t3 : decide ((m : Int) < (k : Int)) = true := by have := hlt.2 hl; simp; omega
      have t3' : decide (m < k) = true := by have := hlt.2 hl; simpa using this
      clear hlt
      go_wp2_with fail
      refine q3.mono ?_
      rintro e w2 ⟨rfl, k2⟩
      have HK3 := Hid.of (HK2.out.trans k2)
      clear q3 k2
      go_wp2_with fail
      go_roundw
      case rel => exact ⟨n + 1, by omega, by go_num, HK3.out⟩
      case measure => simp [intOf]; omega
    · have hm' : ¬ m < k := fun hx => hl (hlt.1 hx)
      have t3 : decide ((m : Int) < (k : Int)) = false := by simp; omega
      have t3' : decide (m < k) = false := by simpa using hm'
      obtain rfl : n = B := by omega
      clear hlt hm'
      go_wp2_with fail
      refine q3.mono ?_
      rintro e w2 ⟨rfl, k2⟩
      have HK3 := Hid.of (HK2.out.trans k2)
      clear q3 k2
      go_wp2
      go_ret
      exact ⟨rfl, HK3.out⟩
def sumBy (q : Nat) : Nat → Nat
  | 0 => 0
  | n + 1 => sumBy q n + byN n q
/-- So many pages a quota takes. -/
def pagesN (q : Nat) : Nat := sumBy q 8 + q / 512
theorem sumBy_le {q : Nat} (hq : q ≤ 65536) : ∀ n, n ≤ 8 → sumBy q n ≤ n * 4096
  | 0, _ => by simp [sumBy]
  | n + 1, h => by
    have h1 := sumBy_le hq n (by omega)
    have h2 := (byN_le (c := n) (by omega) hq).1
    unfold sumBy; omega
set_option maxRecDepth 100000 in
set_option maxHeartbeats 1000000 in
theorem pages_any (w : World) (q : Nat) (hq : 1 ≤ q ∧ q ≤ 65536) : Calls Tryz.prog 25 #[.int .i64 q] w (KI w (.int .i64 (pagesN q))) := by
  have HQ := Hid.of hq
  have hm : mayQ (q : Int) = true := by unfold mayQ; simp; omega
  have hd : q / 512 ≤ 65536 := Nat.le_trans (Nat.div_le_self _ _) hq.2
  have e1 : (q : Int).tdiv 512 = ((q / 512 : Nat) : Int) := by rw [Int.tdiv_eq_ediv_of_nonneg (by omega)]; rfl
  have e1' : (q : Int) / 512 = ((q / 512 : Nat) : Int) := rfl
  have HS := Hid.of (sumBy_le (q := q) hq.2)
  have HP := Hid.of (show pagesN q = sumBy q 8 + q / 512 from rfl)
  generalize pagesN q = PN at HP ⊢
  obtain ⟨d, hdd⟩ : ∃ d, q / 512 = d := ⟨_, rfl⟩
  rw [hdd] at hd e1 e1' HP
  have i1 : wrap64 (d : Int) = d := by unfold wrap64; omega
  have i2 : IntKind.i64.wrap (d : Int) = d := IntWalk.i64_in _ (by omega)
  have HM := Hid.of (And.intro hm hd)
  clear hq hm hd hdd
  go_enter Tryz.func25, Tryz.ntmps25
  go_wp2_with fail
  go_loopw [3, 4] (fun s i wr => ∃ n : Nat, n ≤ 8 ∧ i = .int .i64 n ∧ s = .int .i64 (sumBy q n) ∧ Keeps (fun _ => False) w wr) (fun _ i _ => 8 - (intOf i).toNat)
  case atStart => exact ⟨0, by omega, rfl, rfl, Keeps.refl _ _⟩
  case round =>
    obtain ⟨n, hn, rfl, rfl, hK⟩ := hrel
    have HK := Hid.of hK
    clear hK
    by_cases hl : n < 8
    · have t3 : decide ((n : Int) < 8) = true := by simp; omega
      have t3' : decide (n < 8) = true := by simpa using hl
      have q3 := by_any wr n q hl HQ.out
      unfold KI at q3
      have s1 := HS.out (n + 1) (by omega)
      have es : sumBy q (n + 1) = sumBy q n + byN n q := rfl
      have HE := Hid.of es
      rw [es] at s1
      obtain ⟨a, ha⟩ : ∃ a, sumBy q n = a := ⟨_, rfl⟩
      obtain ⟨b, hb⟩ : ∃ b, byN n q = b := ⟨_, rfl⟩
      rw [hb] at q3
      rw [ha, hb] at s1 HE
      rw [ha]
      obtain ⟨i3, i4⟩ := sum_fits (a := a) (b := b) (by omega)
      clear s1 es ha hb
      go_wp2_with fail
      refine q3.mono ?_
      rintro e w2 ⟨rfl, k2⟩
      have HK3 := Hid.of (HK.out.trans k2)
      clear q3 k2
      go_wp2_with fail
      go_roundw
      case rel => exact ⟨n + 1, by omega, by go_num, by rw [HE.out]; simp, HK3.out⟩
      case measure => simp [intOf]; omega
    · obtain rfl : n = 8 := by omega
      have t3 : decide (((8 : Nat) : Int) < 8) = false := by simp
      have q4 := may_any wr q
      rw [HM.out.1] at q4
      have s1 := HS.out 8 (by omega)
      obtain ⟨a, ha⟩ : ∃ a, sumBy q 8 = a := ⟨_, rfl⟩
      rw [ha] at s1 HP
      rw [ha]
      have hd := HM.out.2
      obtain ⟨i3, i4⟩ := sum_fits (a := a) (b := d) (by omega)
      clear s1 ha hd
      go_wp2_with fail
      refine q4.mono ?_
      rintro e w2 ⟨rfl, rfl⟩
      clear q4
      go_wp2
      go_ret
      refine ⟨?_, HK.out⟩
      rw [HP.out]
      first | rfl | (show Ending.returned (.int .i64 (wrap64 ((a : Int) + (d : Int)))) = _; rw [i3])
-- | rfl | (show Ending.returned (.int .i64 (wrap64 ((a : Int) + (d : Int)))) = _; rw [i3]), HK.out⟩
end Rf
end Go.Proofs.YtnheibcjcgacpaaGreatDoor
