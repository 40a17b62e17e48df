/- garthref24.Leaks; project.Alike, Leaks. -/
import Derived.Test.YtmlolkjgniodpaaProjF
set_option linter.unusedVariables false
set_option linter.unusedSimpArgs false
namespace Go.Proofs.Ytmlolkjgniodpaa
open Go.RowKit Go.ChangeMaps
attribute [-go_sem] run_neq_struct run_eql_struct run_equalIn_agg
namespace Proj
set_option maxRecDepth 100000 in
set_option maxHeartbeats 4000000 in
theorem refLeaks_any (w : World) (A B : Option Addr) (ca cb : Nat) (xs ys : List See) (na nb : Nat) (ha : Rd w A (sees xs)) (hb : Rd w B (sees ys)) (hna : xs.length = na) (hnb : ys.length = nb) (hx : na ≤ 1000000) (hy : nb ≤ 1000000) :
    Calls Try.prog 22 #[.slice A na ca, .slice B nb cb] w fun e w' => e = .returned (.int .i64 (leaksL xs ys)) ∧ Keeps (fun _ => False) w w' := by
  have c1 := refAlike_any w A B ca cb xs ys na nb ha hb hna hnb hx hy
  have hlen : alikeL xs ys = true → xs.length = ys.length := fun h => ((alikeL_iff xs ys).1 h).1
  subst hna hnb
  have HD : Hid (leaksL xs ys = if alikeL xs ys then fd xs ys else -1) := rfl
  generalize leaksL xs ys = rl at *
  generalize alikeL xs ys = r at *
  cases r with
  | false =>
    have hrl : rl = -1 := by rw [HD.out]; rfl
    subst hrl
    clear hlen
    go_enter Try.func22, Try.ntmps22
    go_wp2_with fail
    refine c1.mono ?_
    rintro e w1 ⟨rfl, k1⟩
    go_wp2
    go_ret
    exact ⟨rfl, k1⟩
  | true =>
    have HL := Hid.of (hlen rfl)
    have HD2 : Hid (rl = fd xs ys) := by refine Hid.of ?_; rw [HD.out]; rfl
    clear hlen HD
    go_enter Try.func22, Try.ntmps22
    go_wp2_with fail
    refine c1.mono ?_
    rintro e w1 ⟨rfl, k1⟩
    go_wp2
    go_loopw [5] (fun i wr => ∃ k : Nat, k ≤ xs.length ∧ i = .int .i64 k ∧ Hid (∀ (i : Nat) p q, i < k → xs[i]? = some p → ys[i]? = some q → p.2 = q.2) ∧ Keeps (fun _ => False) w wr) (fun i _ => xs.length - (intOf i).toNat)
    case atStart => exact ⟨0, Nat.zero_le _, rfl, Hid.of (fun i p q h => by omega), k1⟩
    case round =>
      clear k1
      obtain ⟨k, hk, rfl, hT, kp⟩ := hrel
      by_cases hlt : k < xs.length
      · have hlt2 : k < ys.length := by rw [← HL.out]; exact hlt
        obtain ⟨b, o, s, q1, q2, q3, q4, q5, q6, q7, q8, q9, q10, q11, q12, hg, rfl, c0, c1, c2, c3, c4, c5, c6, c7, c8, c9, c10, c11⟩ := rsee (ha.old kp) k hlt
        obtain ⟨b', o', s', p1, p2, p3, p4, p5, p6, p7, p8, p9, p10, p11, p12, hg', rfl, g0, g1, g2, g3, g4, g5, g6, g7, g8, g9, g10, g11⟩ := rsee (hb.old kp) k hlt2
        have hk1 : decide ((k : Int) < xs.length) = true := by simp; omega
        have hk2 : decide ((k : Int) < ys.length) = true := by simp; omega
        have HG := Hid.of (And.intro hg hg')
        clear hg hg'
        by_cases hxy : (⟨q7, q8, q9, q10, q11, q12⟩ : XAns) = ⟨p7, p8, p9, p10, p11, p12⟩
        · have e1 : ansEq q7 q8 q9 q10 q11 q12 p7 p8 p9 p10 p11 p12 = true := decide_eq_true hxy
          have hst := Hid.of (upto_step (R := fun p q => p.2 = q.2) hT.out HG.out.1 HG.out.2 hxy)
          clear hxy
          go_wp2
          go_quiet (fail)
          go_wp2
          go_roundw
          case rel => exact ⟨k + 1, by omega, by go_num, hst, kp.trans ((Keeps.refl _ _).drewN _)⟩
          case measure => simp [intOf]; omega
        · have e1 : ansEq q7 q8 q9 q10 q11 q12 p7 p8 p9 p10 p11 p12 = false := decide_eq_false hxy
          have hf' : Hid (rl = k) := by
            refine Hid.of ?_
            rw [HD2.out]
            exact fd_at k xs ys _ _ HG.out.1 HG.out.2 hT.out hxy
          clear hxy
          go_wp2
          go_quiet (fail)
          go_wp2
          go_ret
          exact ⟨by rw [hf'.out]; rfl, kp.trans ((Keeps.refl _ _).drewN _)⟩
      · have hke : k = xs.length := by omega
        have hk1 : decide ((k : Int) < xs.length) = false := by simp; omega
        have hrt : rl = -1 := by
          rw [HD2.out]
          refine fd_none xs ys (fun i p q hp hq => hT.out i p q ?_ hp hq)
          have := (List.getElem?_eq_some_iff.1 hp).1
          omega
        subst hrt
        clear hke
        go_wp2
        go_ret
        exact ⟨rfl, kp⟩
theorem ops_prefix {w : World} {A : Option Addr} {xs : List XOp} (h : Rd w A (ops xs)) (z : Nat) : Rd w A (ops (xs.take z)) := by
  intro j u hu
  refine h j u ?_
  have e : ops xs = ops (xs.take z) ++ ops (xs.drop z) := by rw [ops, ops, ops, ← List.flatMap_append, List.take_append_drop]
  rw [e, List.getElem?_append_left (List.getElem?_eq_some_iff.1 hu).1]
  exact hu
theorem view_len (id : Int) (xs : List XOp) (ys : List XAns) : (viewL id xs ys).length ≤ xs.length := by
  unfold viewL
  have := List.length_filter_le (fun p : See => p.1.tenant == id) (xs.zip ys)
  rw [List.length_zip] at this
  omega
end Proj
end Go.Proofs.Ytmlolkjgniodpaa
