/- project.Leaks. -/
import Derived.Test.YtmlolkjgniodpaaProjH
set_option linter.unusedVariables false
set_option linter.unusedSimpArgs false
namespace Go.Proofs.Ytmlolkjgniodpaa
open Go.RowKit Go.ChangeMaps
attribute [-go_sem] run_neq_struct run_eql_struct run_equalIn_agg
namespace Proj
theorem upto_snd {a b : List See} {k : Nat} {x y : XAns} (h : ∀ (i : Nat) p q, i < k → a[i]? = some p → b[i]? = some q → p.2 = q.2) (hx : (a.map (·.2))[k]? = some x) (hy : (b.map (·.2))[k]? = some y) (he : x = y) : ∀ (i : Nat) p q, i < k + 1 → a[i]? = some p → b[i]? = some q → p.2 = q.2 := by
  intro i p q hi hp hq
  by_cases e : i = k
  · subst e
    rw [List.getElem?_map, hp] at hx
    rw [List.getElem?_map, hq] at hy
    simp at hx hy
    rw [hx, hy, he]
  · exact h i p q (by omega) hp hq
theorem fd_snd {a b : List See} {k : Nat} {x y : XAns} (h : ∀ (i : Nat) p q, i < k → a[i]? = some p → b[i]? = some q → p.2 = q.2) (hx : (a.map (·.2))[k]? = some x) (hy : (b.map (·.2))[k]? = some y) (he : x ≠ y) : fd a b = k := by
  rw [List.getElem?_map] at hx hy
  cases hp : a[k]? with
  | none => rw [hp] at hx; simp at hx
  | some p =>
    cases hq : b[k]? with
    | none => rw [hq] at hy; simp at hy
    | some q =>
      rw [hp] at hx; rw [hq] at hy
      simp at hx hy
      exact fd_at k a b p q hp hq h (by rw [hx, hy]; exact he)
set_option maxRecDepth 100000 in
set_option maxHeartbeats 2000000 in
theorem leaks_any (w : World) (A B A2 B2 : Option Addr) (ca cb ca2 cb2 : Nat) (id : Int) (xs xs2 : List XOp) (ys ys2 : List XAns) (ha : Rd w A (ops xs)) (hb : Rd w B (anss ys)) (ha2 : Rd w A2 (ops xs2)) (hb2 : Rd w B2 (anss ys2)) (hx : xs.length ≤ 1000000) (hy : ys.length ≤ 1000000) (hx2 : xs2.length ≤ 1000000) (hy2 : ys2.length ≤ 1000000)
    (hca : xs.length ≤ ca) (hca2 : xs2.length ≤ ca2) (hm1 : ca ≤ maxLen) (hm2 : ca2 ≤ maxLen) (hA : A = none → ca = 0) (hA2 : A2 = none → ca2 = 0) :
    Calls Try.prog 21 #[.int .i64 id, .slice A xs.length ca, .slice B ys.length cb, .slice A2 xs2.length ca2, .slice B2 ys2.length cb2] w fun e w' => e = .returned (.int .i64 (leaksL (viewL id xs ys) (viewL id xs2 ys2))) ∧ Keeps (fun _ => False) w w' := by
  have q0 := alike_any w A B A2 B2 ca cb ca2 cb2 id xs xs2 ys ys2 ha hb ha2 hb2 hx hy hx2 hy2 hca hca2 hm1 hm2 hA hA2
  have q1 := fun (wx : World) (k : Keeps (fun _ => False) w wx) => said_any wx A2 B2 ca2 cb2 id xs2 ys2 (ha2.old k) (hb2.old k) hx2 hy2
  have q2 := fun (wx : World) (k : Keeps (fun _ => False) w wx) => said_any wx A B ca cb id xs ys (ha.old k) (hb.old k) hx hy
  have l1 := view_len id xs ys
  rw [show saidL id xs ys = (viewL id xs ys).map (·.2) from rfl] at q2
  rw [show saidL id xs2 ys2 = (viewL id xs2 ys2).map (·.2) from rfl] at q1
  generalize viewL id xs ys = a at *
  generalize viewL id xs2 ys2 = b at *
  simp only [List.length_map] at q1 q2
  have hla : a.length ≤ 1000000 := by omega
  have hlen : alikeL a b = true → a.length = b.length := fun h => ((alikeL_iff a b).1 h).1
  have HD : Hid (leaksL a b = if alikeL a b then fd a b else -1) := rfl
  clear ha hb ha2 hb2 hA hA2 l1 hm1 hm2
  generalize leaksL a b = rl at *
  generalize alikeL a b = r at *
  cases r with
  | false =>
    have hrl : rl = -1 := by rw [HD.out]; rfl
    subst hrl
    clear hlen
    go_enter Try.func21, Try.ntmps21
    go_wp2_with fail
    refine q0.mono ?_
    rintro e w1 ⟨rfl, k1⟩
    go_wp2
    go_ret
    exact ⟨rfl, k1⟩
  | true =>
    have HL := Hid.of (hlen rfl)
    have HD2 : Hid (rl = fd a b) := by refine Hid.of ?_; rw [HD.out]; rfl
    clear hlen HD
    go_enter Try.func21, Try.ntmps21
    go_wp2_with fail
    refine q0.mono ?_
    rintro e w1 ⟨rfl, k1⟩
    go_wp2_with fail
    refine (q1 w1 k1).mono ?_
    rintro e w2 ⟨v2, rfl, o2, k2⟩
    have k02 := k1.trans k2
    go_wp2_with fail
    refine (q2 w2 k02).mono ?_
    rintro e w3 ⟨v3, rfl, o3, k3⟩
    have k03 := k02.trans k3
    have p2 := o2.old k3
    obtain ⟨C1, d1, rfl, -, -, r1⟩ := o3.rd
    obtain ⟨C2, d2, rfl, -, -, r2⟩ := p2.rd
    clear o2 o3 p2 k1 k2 k3 k02 q0 q1 q2
    go_wp2
    go_loopw [30] (fun i wr => ∃ k : Nat, k ≤ a.length ∧ i = .int .i64 k ∧ Hid (∀ (i : Nat) p q, i < k → a[i]? = some p → b[i]? = some q → p.2 = q.2) ∧ Keeps (fun _ => False) w wr ∧ Rd wr C1 (anss (a.map (·.2))) ∧ Rd wr C2 (anss (b.map (·.2)))) (fun i _ => a.length - (intOf i).toNat)
    case atStart => exact ⟨0, Nat.zero_le _, rfl, Hid.of (fun i p q h => by omega), k03, r1, r2⟩
    case round =>
      clear k03 r1 r2
      obtain ⟨k, hk, rfl, hT, kp, r1, r2⟩ := hrel
      by_cases hlt : k < a.length
      · have hlt2 : k < b.length := by rw [← HL.out]; exact hlt
        obtain ⟨b1, o1, s1, x1, x2, x3, x4, x5, x6, hg1, rfl, c0, c1, c2, c3, c4, c5⟩ := rans r1 k (by rw [List.length_map]; exact hlt)
        obtain ⟨w4, hw4⟩ : ∃ w4, wr.alloc (.cells #[.int .i64 x1, .int .u64 x2, .int .i64 x3, .int .i64 x4, .string x5, .int .i64 x6] 35) = w4 := ⟨_, rfl⟩
        have k4 : Keeps (fun _ => False) wr w4 := by rw [← hw4]; exact (Keeps.refl _ _).alloc _
        have hob : w4.heap[wr.heap.size]? = some (.cells #[.int .i64 x1, .int .u64 x2, .int .i64 x3, .int .i64 x4, .string x5, .int .i64 x6] 35 (0, 0)) := by rw [← hw4]; exact alloc_new _ _
        have t1 := r1.old k4
        have t2 := r2.old k4
        obtain ⟨b2, o2, s2, y1, y2, y3, y4, y5, y6, hg2, rfl, e0, e1, e2, e3, e4, e5⟩ := rans t2 k (by rw [List.length_map]; exact hlt2)
        have d0 := cell_of hob 0 rfl
        have d1' := cell_of hob 1 rfl
        have d2' := cell_of hob 2 rfl
        have d3' := cell_of hob 3 rfl
        have d4' := cell_of hob 4 rfl
        have d5' := cell_of hob 5 rfl
        have hk1 : decide ((k : Int) < a.length) = true := by simp; omega
        have hk2 : decide ((k : Int) < b.length) = true := by simp; omega
        have HG := Hid.of (And.intro hg1 hg2)
        have HT1 := Hid.of (And.intro t1 (And.intro t2 (kp.trans k4)))
        clear hg1 hg2 t1 t2 r1 r2 kp k4 hob
        by_cases hxy : (⟨x1, x2, x3, x4, x5, x6⟩ : XAns) = ⟨y1, y2, y3, y4, y5, y6⟩
        · have e1 : ansEq x1 x2 x3 x4 x5 x6 y1 y2 y3 y4 y5 y6 = true := decide_eq_true hxy
          have hst := Hid.of (upto_snd hT.out HG.out.1 HG.out.2 hxy)
          clear hxy
          go_wp2
          go_quiet (fail)
          go_wp2
          go_roundw
          case rel => exact ⟨k + 1, by omega, by go_num, hst, HT1.out.2.2.trans ((Keeps.refl _ _).drewN _), HT1.out.1, HT1.out.2.1⟩
          case measure => simp [intOf]; omega
        · have e1 : ansEq x1 x2 x3 x4 x5 x6 y1 y2 y3 y4 y5 y6 = false := decide_eq_false hxy
          have hf' : Hid (rl = k) := by
            refine Hid.of ?_
            rw [HD2.out]
            exact fd_snd hT.out HG.out.1 HG.out.2 hxy
          clear hxy
          go_wp2
          go_quiet (fail)
          go_wp2
          go_ret
          exact ⟨by rw [hf'.out]; rfl, HT1.out.2.2.trans ((Keeps.refl _ _).drewN _)⟩
      · have hke : k = a.length := by omega
        have hk1 : decide ((k : Int) < a.length) = false := by simp; omega
        have hrt : rl = -1 := by
          rw [HD2.out]
          refine fd_none a b (fun i p q hp hq => hT.out i p q ?_ hp hq)
          have := (List.getElem?_eq_some_iff.1 hp).1
          omega
        subst hrt
        clear hke
        go_wp2
        go_ret
        exact ⟨rfl, kp⟩
end Proj
end Go.Proofs.Ytmlolkjgniodpaa
