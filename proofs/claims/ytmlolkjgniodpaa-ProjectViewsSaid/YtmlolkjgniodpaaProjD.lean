/- project: lists of operations compared; op.Admin, garthref19.Right. -/
import Derived.Test.YtmlolkjgniodpaaProjC
set_option linter.unusedVariables false
set_option linter.unusedSimpArgs false
namespace Go.Proofs.Ytmlolkjgniodpaa
open Go.RowKit Go.ChangeMaps
attribute [-go_sem] run_neq_struct run_eql_struct run_equalIn_agg
namespace Proj
set_option maxRecDepth 100000 in
set_option maxHeartbeats 2000000 in
theorem sameOps_any (w : World) (A B : Option Addr) (ca cb : Nat) (xs ys : List XOp) (na nb : Nat) (ha : Rd w A (ops xs)) (hb : Rd w B (ops ys)) (hna : xs.length = na) (hnb : ys.length = nb) (hx : na ≤ 1000000) (hy : nb ≤ 1000000) :
    Calls Try.prog 17 #[.slice A na ca, .slice B nb cb] w fun e w' => e = .returned (.bool (decide (xs = ys))) ∧ Keeps (fun _ => False) w w' := by
  subst hna hnb
  obtain ⟨r, hr⟩ : ∃ r, decide (xs = ys) = r := ⟨_, rfl⟩
  rw [hr]
  have HR : Hid _ := hr
  clear hr
  by_cases hl : xs.length = ys.length
  · have hl' : ((xs.length : Int) != (ys.length : Int)) = false := by simp [hl]
    have HL : Hid (xs.length = ys.length) := hl
    clear hl
    go_enter Try.func17, Try.ntmps17
    go_wp2
    go_loopw [13] (fun i wr => ∃ k : Nat, k ≤ xs.length ∧ i = .int .i64 k ∧ Hid (xs.take k = ys.take k) ∧ Keeps (fun _ => False) w wr) (fun i _ => xs.length - (intOf i).toNat)
    case atStart => exact ⟨0, Nat.zero_le _, rfl, rfl, Keeps.refl _ _⟩
    case round =>
      obtain ⟨k, hk, rfl, hT, kp⟩ := hrel
      by_cases hlt : k < xs.length
      · have hlt2 : k < ys.length := by rw [← HL.out]; exact hlt
        obtain ⟨b, o, s, q1, q2, q3, q4, q5, q6, hg, rfl, c0, c1, c2, c3, c4, c5⟩ := rop (ha.old kp) k hlt
        obtain ⟨b', o', s', p1, p2, p3, p4, p5, p6, hg', rfl, g0, g1, g2, g3, g4, g5⟩ := rop (hb.old kp) k hlt2
        have hk1 : decide ((k : Int) < xs.length) = true := by simp; omega
        have hk2 : decide ((k : Int) < ys.length) = true := by simp; omega
        have E1 : Hid _ := take_get hg
        have E2 : Hid _ := take_get hg'
        clear hg hg'
        by_cases hxy : (⟨q1, q2, q3, q4, q5, q6⟩ : XOp) = ⟨p1, p2, p3, p4, p5, p6⟩
        · have e1 : opEq q1 q2 q3 q4 q5 q6 p1 p2 p3 p4 p5 p6 = true := decide_eq_true hxy
          have HX := Hid.of hxy
          clear hxy
          go_wp2
          go_quiet (fail)
          go_wp2
          go_roundw
          case rel => exact ⟨k + 1, by omega, by go_num, show xs.take (k + 1) = ys.take (k + 1) by rw [E1.out, E2.out, hT.out, HX.out], kp.trans ((Keeps.refl _ _).drewN _)⟩
          case measure => simp [intOf]; omega
        · have e1 : opEq q1 q2 q3 q4 q5 q6 p1 p2 p3 p4 p5 p6 = false := decide_eq_false hxy
          have hf : decide (xs = ys) = false := by
            rw [decide_eq_false_iff_not]
            rintro rfl
            have := E1.out.symm.trans E2.out
            rw [List.append_cancel_left_eq] at this
            exact hxy (by cases this; rfl)
          have hf' : Hid (r = false) := by rw [← HR.out]; exact hf
          clear hxy hf
          go_wp2
          go_quiet (fail)
          go_wp2
          go_ret
          exact ⟨by rw [hf'.out]; rfl, kp.trans ((Keeps.refl _ _).drewN _)⟩
      · have hke : k = xs.length := by omega
        have hk1 : decide ((k : Int) < xs.length) = false := by simp; omega
        have HKE : Hid _ := hke
        clear hke
        go_wp2
        go_ret
        refine ⟨?_, kp⟩
        have : decide (xs = ys) = true := by
          have := hT.out
          rw [HKE.out, List.take_length, HL.out, List.take_length] at this
          rw [this]; simp
        rw [← HR.out, this]; rfl
  · have hl' : ((xs.length : Int) != (ys.length : Int)) = true := by simp; omega
    have hne : decide (xs = ys) = false := by
      rw [decide_eq_false_iff_not]; rintro rfl; exact hl rfl
    rw [HR.out] at hne
    subst hne
    clear hl
    go_enter Try.func17, Try.ntmps17
    go_wp2
    go_ret
    exact ⟨rfl, Keeps.refl _ _⟩
set_option maxRecDepth 100000 in
set_option maxHeartbeats 2000000 in
theorem equal_any (w : World) (A B : Option Addr) (ca cb : Nat) (xs ys : List XOp) (na nb : Nat) (ha : Rd w A (ops xs)) (hb : Rd w B (ops ys)) (hna : xs.length = na) (hnb : ys.length = nb) (hx : na ≤ 1000000) (hy : nb ≤ 1000000) :
    Calls Try.prog 53 #[.slice A na ca, .slice B nb cb] w fun e w' => e = .returned (.bool (decide (xs = ys))) ∧ Keeps (fun _ => False) w w' := by
  subst hna hnb
  obtain ⟨r, hr⟩ : ∃ r, decide (xs = ys) = r := ⟨_, rfl⟩
  rw [hr]
  have HR : Hid _ := hr
  clear hr
  by_cases hl : xs.length = ys.length
  · have hl' : ((xs.length : Int) != (ys.length : Int)) = false := by simp [hl]
    have HL : Hid (xs.length = ys.length) := hl
    clear hl
    go_enter Try.func53, Try.ntmps53
    go_wp2
    go_loopw [13] (fun i wr => ∃ k : Nat, k ≤ xs.length ∧ i = .int .i64 k ∧ Hid (xs.take k = ys.take k) ∧ Keeps (fun _ => False) w wr) (fun i _ => xs.length - (intOf i).toNat)
    case atStart => exact ⟨0, Nat.zero_le _, rfl, rfl, Keeps.refl _ _⟩
    case round =>
      obtain ⟨k, hk, rfl, hT, kp⟩ := hrel
      by_cases hlt : k < xs.length
      · have hlt2 : k < ys.length := by rw [← HL.out]; exact hlt
        obtain ⟨b, o, s, q1, q2, q3, q4, q5, q6, hg, rfl, c0, c1, c2, c3, c4, c5⟩ := rop (ha.old kp) k hlt
        obtain ⟨b', o', s', p1, p2, p3, p4, p5, p6, hg', rfl, g0, g1, g2, g3, g4, g5⟩ := rop (hb.old kp) k hlt2
        have hk1 : decide ((k : Int) < xs.length) = true := by simp; omega
        have hk2 : decide ((k : Int) < ys.length) = true := by simp; omega
        have E1 : Hid _ := take_get hg
        have E2 : Hid _ := take_get hg'
        clear hg hg'
        by_cases hxy : (⟨q1, q2, q3, q4, q5, q6⟩ : XOp) = ⟨p1, p2, p3, p4, p5, p6⟩
        · have e1 : opEq q1 q2 q3 q4 q5 q6 p1 p2 p3 p4 p5 p6 = true := decide_eq_true hxy
          have HX := Hid.of hxy
          clear hxy
          go_wp2
          go_quiet (fail)
          go_wp2
          go_roundw
          case rel => exact ⟨k + 1, by omega, by go_num, show xs.take (k + 1) = ys.take (k + 1) by rw [E1.out, E2.out, hT.out, HX.out], kp.trans ((Keeps.refl _ _).drewN _)⟩
          case measure => simp [intOf]; omega
        · have e1 : opEq q1 q2 q3 q4 q5 q6 p1 p2 p3 p4 p5 p6 = false := decide_eq_false hxy
          have hf : decide (xs = ys) = false := by
            rw [decide_eq_false_iff_not]
            rintro rfl
            have := E1.out.symm.trans E2.out
            rw [List.append_cancel_left_eq] at this
            exact hxy (by cases this; rfl)
          have hf' : Hid (r = false) := by rw [← HR.out]; exact hf
          clear hxy hf
          go_wp2
          go_quiet (fail)
          go_wp2
          go_ret
          exact ⟨by rw [hf'.out]; rfl, kp.trans ((Keeps.refl _ _).drewN _)⟩
      · have hke : k = xs.length := by omega
        have hk1 : decide ((k : Int) < xs.length) = false := by simp; omega
        have HKE : Hid _ := hke
        clear hke
        go_wp2
        go_ret
        refine ⟨?_, kp⟩
        have : decide (xs = ys) = true := by
          have := hT.out
          rw [HKE.out, List.take_length, HL.out, List.take_length] at this
          rw [this]; simp
        rw [← HR.out, this]; rfl
  · have hl' : ((xs.length : Int) != (ys.length : Int)) = true := by simp; omega
    have hne : decide (xs = ys) = false := by
      rw [decide_eq_false_iff_not]; rintro rfl; exact hl rfl
    rw [HR.out] at hne
    subst hne
    clear hl
    go_enter Try.func53, Try.ntmps53
    go_wp2
    go_ret
    exact ⟨rfl, Keeps.refl _ _⟩

theorem if01 (c : Bool) : ((if c = true then (0 : Int) else 1) == 0) = c := by cases c <;> rfl
set_option maxRecDepth 100000 in
set_option maxHeartbeats 2000000 in
theorem admin_any (w : World) (k t n m hh : Int) (d : ByteArray) :
    Calls Try.prog 54 #[.agg #[.int .i64 k, .int .i64 t, .int .i64 n, .int .i64 m, .int .u64 hh, .string d]] w fun e w' => e = .returned (.bool (adm ⟨k, t, n, m, hh, d⟩)) ∧ Keeps (fun _ => False) w w' := by
  obtain ⟨w1, hw1⟩ : ∃ w1, w.alloc (.cells #[.int .i64 k, .int .i64 t, .int .i64 n, .int .i64 m, .int .u64 hh, .string d] 30) = w1 := ⟨_, rfl⟩
  have k1 : Keeps (fun _ => False) w w1 := by rw [← hw1]; exact (Keeps.refl _ _).alloc _
  have hob : w1.heap[w.heap.size]? = some (.cells #[.int .i64 k, .int .i64 t, .int .i64 n, .int .i64 m, .int .u64 hh, .string d] 30 (0, 0)) := by rw [← hw1]; exact alloc_new _ _
  have d0 := cell_of hob 0 rfl
  have d1 := cell_of hob 1 rfl
  have d2 := cell_of hob 2 rfl
  have d3 := cell_of hob 3 rfl
  have d4 := cell_of hob 4 rfl
  have d5 := cell_of hob 5 rfl
  have q := check_any w1 k t n m hh d
  have HA : Hid (adm ⟨k, t, n, m, hh, d⟩ = (right ⟨k, t, n, m, hh, d⟩ && decide (k ≤ 3))) := rfl
  generalize right ⟨k, t, n, m, hh, d⟩ = r at *
  generalize adm ⟨k, t, n, m, hh, d⟩ = r2 at *
  cases r with
  | true =>
    rw [if_pos rfl] at q
    go_enter Try.func54, Try.ntmps54
    go_wp2_with fail
    refine q.mono ?_
    rintro e w2 ⟨rfl, k2⟩
    have f0 := cell_of (k2.at hob (fun x => x)) 0 rfl
    have K12 := Hid.of (k1.trans k2)
    clear k1 k2 hob
    go_wp2
    go_ret
    exact ⟨by rw [HA.out]; rfl, K12.out⟩
  | false =>
    rw [if_neg (by simp)] at q
    go_enter Try.func54, Try.ntmps54
    go_wp2_with fail
    refine q.mono ?_
    rintro e w2 ⟨rfl, k2⟩
    have K12 := Hid.of (k1.trans k2)
    clear k1 k2 hob
    go_wp2
    go_ret
    exact ⟨by rw [HA.out]; rfl, K12.out⟩
end Proj
end Go.Proofs.Ytmlolkjgniodpaa
