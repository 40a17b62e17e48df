/- garthref24.Alike. -/
import Derived.Test.YtmlolkjgniodpaaProjE
set_option linter.unusedVariables false
set_option linter.unusedSimpArgs false
namespace Go.Proofs.Ytmlolkjgniodpaa
open Go.RowKit Go.ChangeMaps
attribute [-go_sem] run_neq_struct run_eql_struct run_equalIn_agg
namespace Proj

set_option maxRecDepth 100000 in
set_option maxHeartbeats 4000000 in
theorem refAlike_any (w : World) (A B : Option Addr) (ca cb : Nat) (xs ys : List See) (na nb : Nat) (ha : Rd w A (sees xs)) (hb : Rd w B (sees ys)) (hna : xs.length = na) (hnb : ys.length = nb) (hx : na ≤ 1000000) (hy : nb ≤ 1000000) :
    Calls Try.prog 20 #[.slice A na ca, .slice B nb cb] w fun e w' => e = .returned (.bool (alikeL xs ys)) ∧ Keeps (fun _ => False) w w' := by
  subst hna hnb
  have HI := Hid.of (alikeL_iff xs ys)
  generalize alikeL xs ys = r at *
  by_cases hl : xs.length = ys.length
  · have hl' : ((xs.length : Int) != (ys.length : Int)) = false := by simp [hl]
    have HL : Hid (xs.length = ys.length) := hl
    clear hl
    go_enter Try.func20, Try.ntmps20
    go_wp2
    go_loopw [5] (fun i wr => ∃ k : Nat, k ≤ xs.length ∧ i = .int .i64 k ∧ Hid (∀ (i : Nat) p q, i < k → xs[i]? = some p → ys[i]? = some q → p.1 = q.1 ∧ bad p q = false) ∧ Keeps (fun _ => False) w wr) (fun i _ => xs.length - (intOf i).toNat)
    case atStart => exact ⟨0, Nat.zero_le _, rfl, Hid.of (fun i p q h => by omega), Keeps.refl _ _⟩
    case round =>
      obtain ⟨k, hk, rfl, hT, kp⟩ := hrel
      by_cases hlt : k < xs.length
      · have hlt2 : k < ys.length := by rw [← HL.out]; exact hlt
        obtain ⟨b, o, s, q1, q2, q3, q4, q5, q6, q7, q8, q9, q10, q11, q12, hg, rfl, c0, c1, c2, c3, c4, c5, c6, c7, c8, c9, c10, c11⟩ := rsee (ha.old kp) k hlt
        obtain ⟨b', o', s', p1, p2, p3, p4, p5, p6, p7, p8, p9, p10, p11, p12, hg', rfl, g0, g1, g2, g3, g4, g5, g6, g7, g8, g9, g10, g11⟩ := rsee (hb.old kp) k hlt2
        have hk1 : decide ((k : Int) < xs.length) = true := by simp; omega
        have hk2 : decide ((k : Int) < ys.length) = true := by simp; omega
        have HG := Hid.of (And.intro hg hg')
        clear hg hg'
        by_cases hxy : (⟨q1, q2, q3, q4, q5, q6⟩ : XOp) = ⟨p1, p2, p3, p4, p5, p6⟩
        · have e1 : opEq q1 q2 q3 q4 q5 q6 p1 p2 p3 p4 p5 p6 = true := decide_eq_true hxy
          have HX := Hid.of hxy
          clear hxy
          have cR := fun (wx : World) => right_any wx q1 q2 q3 q4 q5 q6
          have HBad : Hid (bad (⟨q1, q2, q3, q4, q5, q6⟩, ⟨q7, q8, q9, q10, q11, q12⟩) (⟨p1, p2, p3, p4, p5, p6⟩, ⟨p7, p8, p9, p10, p11, p12⟩) = ((right ⟨q1, q2, q3, q4, q5, q6⟩ && decide (q1 ≤ 3)) && (q7 != p7))) := rfl
          generalize right ⟨q1, q2, q3, q4, q5, q6⟩ = rr at *
          have hsp : rr = false ∨ (rr = true ∧ ¬ q1 ≤ 3) ∨ (rr = true ∧ q1 ≤ 3 ∧ q7 = p7) ∨ (rr = true ∧ q1 ≤ 3 ∧ q7 ≠ p7) := by
            cases rr <;> simp; omega
          go_wp2
          go_quiet (fail)
          have kp5 := kp.trans ((Keeps.refl _ _).drewN nq)
          have hS : (fun wx : World => wx.cell? ((⟨b, o, s⟩ : Addr).add (k * 12)) = some (.int .i64 q1) ∧ wx.cell? ⟨((⟨b, o, s⟩ : Addr).add (k * 12)).block, ((⟨b, o, s⟩ : Addr).add (k * 12)).off + 1, none⟩ = some (.int .i64 q2) ∧ wx.cell? ⟨((⟨b, o, s⟩ : Addr).add (k * 12)).block, ((⟨b, o, s⟩ : Addr).add (k * 12)).off + 2, none⟩ = some (.int .i64 q3) ∧ wx.cell? ⟨((⟨b, o, s⟩ : Addr).add (k * 12)).block, ((⟨b, o, s⟩ : Addr).add (k * 12)).off + 3, none⟩ = some (.int .i64 q4) ∧ wx.cell? ⟨((⟨b, o, s⟩ : Addr).add (k * 12)).block, ((⟨b, o, s⟩ : Addr).add (k * 12)).off + 4, none⟩ = some (.int .u64 q5) ∧ wx.cell? ⟨((⟨b, o, s⟩ : Addr).add (k * 12)).block, ((⟨b, o, s⟩ : Addr).add (k * 12)).off + 5, none⟩ = some (.string q6) ∧ wx.cell? ⟨((⟨b, o, s⟩ : Addr).add (k * 12)).block, ((⟨b, o, s⟩ : Addr).add (k * 12)).off + 6, none⟩ = some (.int .i64 q7) ∧ wx.cell? ⟨((⟨b', o', s'⟩ : Addr).add (k * 12)).block, ((⟨b', o', s'⟩ : Addr).add (k * 12)).off + 6, none⟩ = some (.int .i64 p7)) (wr.drewN nq) := ⟨c0, c1, c2, c3, c4, c5, c6, g6⟩
          obtain ⟨t0, t1, t2, t3, t4, t5, t6, t7⟩ := hS
          clear c0 c1 c2 c3 c4 c5 c6 c7 c8 c9 c10 c11 g0 g1 g2 g3 g4 g5 g6 g7 g8 g9 g10 g11
          generalize wr.drewN nq = w5 at *
          rcases hsp with h1 | ⟨h1, h2⟩ | ⟨h1, h2, h3⟩ | ⟨h1, h2, h3⟩
          case inr.inr.inr =>
            subst h1
            have e7 : (q7 != p7) = true := by simpa using h3
            have hf' : r = false := by
              cases r with
              | false => rfl
              | true =>
                have := ((HI.out.1 rfl).2 k _ _ HG.out.1 HG.out.2).2
                rw [HBad.out, e7, decide_eq_true h2] at this
                simp at this
            subst hf'
            clear h3
            go_wp2
            go_region_held3 (fun wx : World => wx.cell? ((⟨b, o, s⟩ : Addr).add (k * 12)) = some (.int .i64 q1) ∧ wx.cell? ⟨((⟨b, o, s⟩ : Addr).add (k * 12)).block, ((⟨b, o, s⟩ : Addr).add (k * 12)).off + 1, none⟩ = some (.int .i64 q2) ∧ wx.cell? ⟨((⟨b, o, s⟩ : Addr).add (k * 12)).block, ((⟨b, o, s⟩ : Addr).add (k * 12)).off + 2, none⟩ = some (.int .i64 q3) ∧ wx.cell? ⟨((⟨b, o, s⟩ : Addr).add (k * 12)).block, ((⟨b, o, s⟩ : Addr).add (k * 12)).off + 3, none⟩ = some (.int .i64 q4) ∧ wx.cell? ⟨((⟨b, o, s⟩ : Addr).add (k * 12)).block, ((⟨b, o, s⟩ : Addr).add (k * 12)).off + 4, none⟩ = some (.int .u64 q5) ∧ wx.cell? ⟨((⟨b, o, s⟩ : Addr).add (k * 12)).block, ((⟨b, o, s⟩ : Addr).add (k * 12)).off + 5, none⟩ = some (.string q6) ∧ wx.cell? ⟨((⟨b, o, s⟩ : Addr).add (k * 12)).block, ((⟨b, o, s⟩ : Addr).add (k * 12)).off + 6, none⟩ = some (.int .i64 q7) ∧ wx.cell? ⟨((⟨b', o', s'⟩ : Addr).add (k * 12)).block, ((⟨b', o', s'⟩ : Addr).add (k * 12)).off + 6, none⟩ = some (.int .i64 p7))
              (first | exact ⟨t0, t1, t2, t3, t4, t5, t6, t7⟩ | exact ⟨z0, z1, z2, z3, z4, z5, z6, z7⟩)
              (first | (go_at_call 55; refine (cR _).mono ?_; rintro e w6 ⟨rfl, k6⟩; have z0 := keep_cell k6 t0; have z1 := keep_cell k6 t1; have z2 := keep_cell k6 t2; have z3 := keep_cell k6 t3; have z4 := keep_cell k6 t4; have z5 := keep_cell k6 t5; have z6 := keep_cell k6 t6; have z7 := keep_cell k6 t7))
            go_wp2
            go_ret
            exact ⟨rfl, kp5.trans k6.of_drew⟩
          case inl =>
            have hbf : bad (⟨q1, q2, q3, q4, q5, q6⟩, ⟨q7, q8, q9, q10, q11, q12⟩) (⟨p1, p2, p3, p4, p5, p6⟩, ⟨p7, p8, p9, p10, p11, p12⟩) = false := by
              rw [HBad.out]
              rw [h1]; rfl
            have hst := Hid.of (upto_step (R := fun p q => p.1 = q.1 ∧ bad p q = false) hT.out HG.out.1 HG.out.2 ⟨HX.out, hbf⟩)
            clear hbf HBad
            subst h1
            skip
            go_wp2
            refine wp_region_held_drew (S := (fun wx : World => wx.cell? ((⟨b, o, s⟩ : Addr).add (k * 12)) = some (.int .i64 q1) ∧ wx.cell? ⟨((⟨b, o, s⟩ : Addr).add (k * 12)).block, ((⟨b, o, s⟩ : Addr).add (k * 12)).off + 1, none⟩ = some (.int .i64 q2) ∧ wx.cell? ⟨((⟨b, o, s⟩ : Addr).add (k * 12)).block, ((⟨b, o, s⟩ : Addr).add (k * 12)).off + 2, none⟩ = some (.int .i64 q3) ∧ wx.cell? ⟨((⟨b, o, s⟩ : Addr).add (k * 12)).block, ((⟨b, o, s⟩ : Addr).add (k * 12)).off + 3, none⟩ = some (.int .i64 q4) ∧ wx.cell? ⟨((⟨b, o, s⟩ : Addr).add (k * 12)).block, ((⟨b, o, s⟩ : Addr).add (k * 12)).off + 4, none⟩ = some (.int .u64 q5) ∧ wx.cell? ⟨((⟨b, o, s⟩ : Addr).add (k * 12)).block, ((⟨b, o, s⟩ : Addr).add (k * 12)).off + 5, none⟩ = some (.string q6))) (by kernel_rfl) (⟨t0, t1, t2, t3, t4, t5⟩) (fun hHeld => ?_)
            refine wpAnyH_take (i := 0) (v := ?_) rfl (by kernel_rfl) (by kernel_rfl) (by kernel_rfl) (fun _ _ _ h => h) (Or.inl ⟨by kernel_rfl, ?_⟩) (by assumption) ?_
            rotate_left
            · (intro w hSw; (try dsimp only at hSw); go_simp); (try with_reducible rfl)
            (try simp only [Act.put, List.getElem_toArray, List.getElem_cons_zero, List.getElem_cons_succ, List.setIfInBounds_toArray, List.set_cons_zero, List.set_cons_succ])
            refine wpAnyH_take (i := 1) (v := ?_) rfl (by kernel_rfl) (by kernel_rfl) (by kernel_rfl) (fun _ _ _ h => h) (Or.inl ⟨by kernel_rfl, ?_⟩) (by assumption) ?_
            rotate_left
            · (intro w hSw; (try dsimp only at hSw); go_simp); (try with_reducible rfl)
            (try simp only [Act.put, List.getElem_toArray, List.getElem_cons_zero, List.getElem_cons_succ, List.setIfInBounds_toArray, List.set_cons_zero, List.set_cons_succ])
            refine wpAnyH_take (i := 2) (v := ?_) rfl (by kernel_rfl) (by kernel_rfl) (by kernel_rfl) (fun _ _ _ h => h) (Or.inl ⟨by kernel_rfl, ?_⟩) (by assumption) ?_
            rotate_left
            · (intro w hSw; (try dsimp only at hSw); go_simp); (try with_reducible rfl)
            (try simp only [Act.put, List.getElem_toArray, List.getElem_cons_zero, List.getElem_cons_succ, List.setIfInBounds_toArray, List.set_cons_zero, List.set_cons_succ])
            refine wpAnyH_take (i := 3) (v := ?_) rfl (by kernel_rfl) (by kernel_rfl) (by kernel_rfl) (fun _ _ _ h => h) (Or.inl ⟨by kernel_rfl, ?_⟩) (by assumption) ?_
            rotate_left
            · (intro w hSw; (try dsimp only at hSw); go_simp); (try with_reducible rfl)
            (try simp only [Act.put, List.getElem_toArray, List.getElem_cons_zero, List.getElem_cons_succ, List.setIfInBounds_toArray, List.set_cons_zero, List.set_cons_succ])
            refine wpAnyH_take (i := 4) (v := ?_) rfl (by kernel_rfl) (by kernel_rfl) (by kernel_rfl) (fun _ _ _ h => h) (Or.inl ⟨by kernel_rfl, ?_⟩) (by assumption) ?_
            rotate_left
            · (intro w hSw; (try dsimp only at hSw); go_simp); (try with_reducible rfl)
            (try simp only [Act.put, List.getElem_toArray, List.getElem_cons_zero, List.getElem_cons_succ, List.setIfInBounds_toArray, List.set_cons_zero, List.set_cons_succ])
            refine wpAnyH_ready (rs := [5]) (by kernel_rfl) (by simp) ?_
            refine AllReadyH.cons rfl (fun K hK => ?_) AllReadyH.nil
            go_simp
            (go_at_call 55; refine (cR _).mono ?_; rintro e w6 ⟨rfl, k6⟩; have z0 := keep_cell k6 t0; have z1 := keep_cell k6 t1; have z2 := keep_cell k6 t2; have z3 := keep_cell k6 t3; have z4 := keep_cell k6 t4; have z5 := keep_cell k6 t5)
            first | (refine hK.out _ _ (⟨z0, z1, z2, z3, z4, z5⟩) (fun hHeld => ?_)) | (go_wp2_with fail; refine hK.out _ _ (⟨z0, z1, z2, z3, z4, z5⟩) (fun hHeld => ?_))
            clear hK K
            (try simp only [Act.put, List.getElem_toArray, List.getElem_cons_zero, List.getElem_cons_succ, List.setIfInBounds_toArray, List.set_cons_zero, List.set_cons_succ])
            refine wpAnyH_take (i := 6) (v := ?_) rfl (by kernel_rfl) (by kernel_rfl) (by kernel_rfl) (fun _ _ _ h => h) (Or.inl ⟨by kernel_rfl, ?_⟩) (by assumption) ?_
            rotate_left
            · (intro w hSw; (try dsimp only at hSw); go_simp); (try with_reducible rfl)
            (try simp only [Act.put, List.getElem_toArray, List.getElem_cons_zero, List.getElem_cons_succ, List.setIfInBounds_toArray, List.set_cons_zero, List.set_cons_succ])
            refine wpAnyH_take (i := 7) (v := undef) rfl (by kernel_rfl) (by kernel_rfl) (by kernel_rfl) (fun _ _ _ h => h) (Or.inr ⟨by kernel_rfl, rfl⟩) (by assumption) ?_
            (try simp only [Act.put, List.getElem_toArray, List.getElem_cons_zero, List.getElem_cons_succ, List.setIfInBounds_toArray, List.set_cons_zero, List.set_cons_succ])
            refine wpAnyH_take (i := 8) (v := undef) rfl (by kernel_rfl) (by kernel_rfl) (by kernel_rfl) (fun _ _ _ h => h) (Or.inr ⟨by kernel_rfl, rfl⟩) (by assumption) ?_
            (try simp only [Act.put, List.getElem_toArray, List.getElem_cons_zero, List.getElem_cons_succ, List.setIfInBounds_toArray, List.set_cons_zero, List.set_cons_succ])
            refine wpAnyH_take (i := 9) (v := undef) rfl (by kernel_rfl) (by kernel_rfl) (by kernel_rfl) (fun _ _ _ h => h) (Or.inr ⟨by kernel_rfl, rfl⟩) (by assumption) ?_
            (try simp only [Act.put, List.getElem_toArray, List.getElem_cons_zero, List.getElem_cons_succ, List.setIfInBounds_toArray, List.set_cons_zero, List.set_cons_succ])
            refine wpAnyH_take (i := 10) (v := undef) rfl (by kernel_rfl) (by kernel_rfl) (by kernel_rfl) (fun _ _ _ h => h) (Or.inr ⟨by kernel_rfl, rfl⟩) (by assumption) ?_
            (try simp only [Act.put, List.getElem_toArray, List.getElem_cons_zero, List.getElem_cons_succ, List.setIfInBounds_toArray, List.set_cons_zero, List.set_cons_succ])
            refine wpAnyH_take (i := 11) (v := undef) rfl (by kernel_rfl) (by kernel_rfl) (by kernel_rfl) (fun _ _ _ h => h) (Or.inr ⟨by kernel_rfl, rfl⟩) (by assumption) ?_
            (try simp only [Act.put, List.getElem_toArray, List.getElem_cons_zero, List.getElem_cons_succ, List.setIfInBounds_toArray, List.set_cons_zero, List.set_cons_succ])
            refine wpAnyH_take (i := 12) (v := undef) rfl (by kernel_rfl) (by kernel_rfl) (by kernel_rfl) (fun _ _ _ h => h) (Or.inr ⟨by kernel_rfl, rfl⟩) (by assumption) ?_
            (try simp only [Act.put, List.getElem_toArray, List.getElem_cons_zero, List.getElem_cons_succ, List.setIfInBounds_toArray, List.set_cons_zero, List.set_cons_succ])
            refine wpAnyH_take (i := 13) (v := undef) rfl (by kernel_rfl) (by kernel_rfl) (by kernel_rfl) (fun _ _ _ h => h) (Or.inr ⟨by kernel_rfl, rfl⟩) (by assumption) ?_
            (try simp only [Act.put, List.getElem_toArray, List.getElem_cons_zero, List.getElem_cons_succ, List.setIfInBounds_toArray, List.set_cons_zero, List.set_cons_succ])
            refine wpAnyH_take (i := 14) (v := ?_) rfl (by kernel_rfl) (by kernel_rfl) (by kernel_rfl) (fun _ _ _ h => h) (Or.inl ⟨by kernel_rfl, ?_⟩) (by assumption) ?_
            rotate_left
            · (intro w hSw; (try dsimp only at hSw); go_simp); (try with_reducible rfl)
            (try simp only [Act.put, List.getElem_toArray, List.getElem_cons_zero, List.getElem_cons_succ, List.setIfInBounds_toArray, List.set_cons_zero, List.set_cons_succ])
            refine wpAnyH_take (i := 15) (v := ?_) rfl (by kernel_rfl) (by kernel_rfl) (by kernel_rfl) (fun _ _ _ h => h) (Or.inl ⟨by kernel_rfl, ?_⟩) (by assumption) ?_
            rotate_left
            · (intro w hSw; (try dsimp only at hSw); go_simp); (try with_reducible rfl)
            (try simp only [Act.put, List.getElem_toArray, List.getElem_cons_zero, List.getElem_cons_succ, List.setIfInBounds_toArray, List.set_cons_zero, List.set_cons_succ])
            refine wpAnyH_take (i := 16) (v := undef) rfl (by kernel_rfl) (by kernel_rfl) (by kernel_rfl) (fun _ _ _ h => h) (Or.inr ⟨by kernel_rfl, rfl⟩) (by assumption) ?_
            (try simp only [Act.put, List.getElem_toArray, List.getElem_cons_zero, List.getElem_cons_succ, List.setIfInBounds_toArray, List.set_cons_zero, List.set_cons_succ])
            refine wpAnyH_take (i := 17) (v := undef) rfl (by kernel_rfl) (by kernel_rfl) (by kernel_rfl) (fun _ _ _ h => h) (Or.inr ⟨by kernel_rfl, rfl⟩) (by assumption) ?_
            (try simp only [Act.put, List.getElem_toArray, List.getElem_cons_zero, List.getElem_cons_succ, List.setIfInBounds_toArray, List.set_cons_zero, List.set_cons_succ])
            refine wpAnyH_take (i := 18) (v := undef) rfl (by kernel_rfl) (by kernel_rfl) (by kernel_rfl) (fun _ _ _ h => h) (Or.inr ⟨by kernel_rfl, rfl⟩) (by assumption) ?_
            (try simp only [Act.put, List.getElem_toArray, List.getElem_cons_zero, List.getElem_cons_succ, List.setIfInBounds_toArray, List.set_cons_zero, List.set_cons_succ])
            refine wpAnyH_take (i := 19) (v := undef) rfl (by kernel_rfl) (by kernel_rfl) (by kernel_rfl) (fun _ _ _ h => h) (Or.inr ⟨by kernel_rfl, rfl⟩) (by assumption) ?_
            (try simp only [Act.put, List.getElem_toArray, List.getElem_cons_zero, List.getElem_cons_succ, List.setIfInBounds_toArray, List.set_cons_zero, List.set_cons_succ])
            refine wpAnyH_take (i := 20) (v := undef) rfl (by kernel_rfl) (by kernel_rfl) (by kernel_rfl) (fun _ _ _ h => h) (Or.inr ⟨by kernel_rfl, rfl⟩) (by assumption) ?_
            (try simp only [Act.put, List.getElem_toArray, List.getElem_cons_zero, List.getElem_cons_succ, List.setIfInBounds_toArray, List.set_cons_zero, List.set_cons_succ])
            refine wpAnyH_take (i := 21) (v := undef) rfl (by kernel_rfl) (by kernel_rfl) (by kernel_rfl) (fun _ _ _ h => h) (Or.inr ⟨by kernel_rfl, rfl⟩) (by assumption) ?_
            (try simp only [Act.put, List.getElem_toArray, List.getElem_cons_zero, List.getElem_cons_succ, List.setIfInBounds_toArray, List.set_cons_zero, List.set_cons_succ])
            refine wpAnyH_take (i := 22) (v := undef) rfl (by kernel_rfl) (by kernel_rfl) (by kernel_rfl) (fun _ _ _ h => h) (Or.inr ⟨by kernel_rfl, rfl⟩) (by assumption) ?_
            (try simp only [Act.put, List.getElem_toArray, List.getElem_cons_zero, List.getElem_cons_succ, List.setIfInBounds_toArray, List.set_cons_zero, List.set_cons_succ])
            refine wpAnyH_take (i := 23) (v := undef) rfl (by kernel_rfl) (by kernel_rfl) (by kernel_rfl) (fun _ _ _ h => h) (Or.inr ⟨by kernel_rfl, rfl⟩) (by assumption) ?_
            (try simp only [Act.put, List.getElem_toArray, List.getElem_cons_zero, List.getElem_cons_succ, List.setIfInBounds_toArray, List.set_cons_zero, List.set_cons_succ])
            refine wpAnyH_take (i := 24) (v := undef) rfl (by kernel_rfl) (by kernel_rfl) (by kernel_rfl) (fun _ _ _ h => h) (Or.inr ⟨by kernel_rfl, rfl⟩) (by assumption) ?_
            (try simp only [Act.put, List.getElem_toArray, List.getElem_cons_zero, List.getElem_cons_succ, List.setIfInBounds_toArray, List.set_cons_zero, List.set_cons_succ])
            refine wpAnyH_take (i := 25) (v := undef) rfl (by kernel_rfl) (by kernel_rfl) (by kernel_rfl) (fun _ _ _ h => h) (Or.inr ⟨by kernel_rfl, rfl⟩) (by assumption) ?_
            (try simp only [Act.put, List.getElem_toArray, List.getElem_cons_zero, List.getElem_cons_succ, List.setIfInBounds_toArray, List.set_cons_zero, List.set_cons_succ])
            refine wpAnyH_take (i := 26) (v := undef) rfl (by kernel_rfl) (by kernel_rfl) (by kernel_rfl) (fun _ _ _ h => h) (Or.inr ⟨by kernel_rfl, rfl⟩) (by assumption) ?_
            (try simp only [Act.put, List.getElem_toArray, List.getElem_cons_zero, List.getElem_cons_succ, List.setIfInBounds_toArray, List.set_cons_zero, List.set_cons_succ])
            refine wpAnyH_take (i := 27) (v := undef) rfl (by kernel_rfl) (by kernel_rfl) (by kernel_rfl) (fun _ _ _ h => h) (Or.inr ⟨by kernel_rfl, rfl⟩) (by assumption) ?_
            (try simp only [Act.put, List.getElem_toArray, List.getElem_cons_zero, List.getElem_cons_succ, List.setIfInBounds_toArray, List.set_cons_zero, List.set_cons_succ])
            refine wpAnyH_take (i := 28) (v := undef) rfl (by kernel_rfl) (by kernel_rfl) (by kernel_rfl) (fun _ _ _ h => h) (Or.inr ⟨by kernel_rfl, rfl⟩) (by assumption) ?_
            (try simp only [Act.put, List.getElem_toArray, List.getElem_cons_zero, List.getElem_cons_succ, List.setIfInBounds_toArray, List.set_cons_zero, List.set_cons_succ])
            refine wpAnyH_take (i := 29) (v := ?_) rfl (by kernel_rfl) (by kernel_rfl) (by kernel_rfl) (fun _ _ _ h => h) (Or.inl ⟨by kernel_rfl, ?_⟩) (by assumption) ?_
            rotate_left
            · (intro w hSw; (try dsimp only at hSw); go_simp); (try with_reducible rfl)
            (try simp only [Act.put, List.getElem_toArray, List.getElem_cons_zero, List.getElem_cons_succ, List.setIfInBounds_toArray, List.set_cons_zero, List.set_cons_succ])
            refine wpAnyH_done (by kernel_rfl) ?_ _
            go_wp2
            go_roundw
            case rel => exact ⟨k + 1, by omega, by go_num, hst, kp5.trans k6.of_drew⟩
            case measure => simp [intOf]; omega
          case inr.inl =>
            have hbf : bad (⟨q1, q2, q3, q4, q5, q6⟩, ⟨q7, q8, q9, q10, q11, q12⟩) (⟨p1, p2, p3, p4, p5, p6⟩, ⟨p7, p8, p9, p10, p11, p12⟩) = false := by
              rw [HBad.out]
              rw [decide_eq_false (show ¬ q1 ≤ 3 by omega), Bool.and_false]; rfl
            have hst := Hid.of (upto_step (R := fun p q => p.1 = q.1 ∧ bad p q = false) hT.out HG.out.1 HG.out.2 ⟨HX.out, hbf⟩)
            clear hbf HBad
            subst h1
            have h2' : 3 < q1 := by omega
            have h2'' : decide (q1 ≤ 3) = false := decide_eq_false (by omega)
            go_wp2
            refine wp_region_held_drew (S := (fun wx : World => wx.cell? ((⟨b, o, s⟩ : Addr).add (k * 12)) = some (.int .i64 q1) ∧ wx.cell? ⟨((⟨b, o, s⟩ : Addr).add (k * 12)).block, ((⟨b, o, s⟩ : Addr).add (k * 12)).off + 1, none⟩ = some (.int .i64 q2) ∧ wx.cell? ⟨((⟨b, o, s⟩ : Addr).add (k * 12)).block, ((⟨b, o, s⟩ : Addr).add (k * 12)).off + 2, none⟩ = some (.int .i64 q3) ∧ wx.cell? ⟨((⟨b, o, s⟩ : Addr).add (k * 12)).block, ((⟨b, o, s⟩ : Addr).add (k * 12)).off + 3, none⟩ = some (.int .i64 q4) ∧ wx.cell? ⟨((⟨b, o, s⟩ : Addr).add (k * 12)).block, ((⟨b, o, s⟩ : Addr).add (k * 12)).off + 4, none⟩ = some (.int .u64 q5) ∧ wx.cell? ⟨((⟨b, o, s⟩ : Addr).add (k * 12)).block, ((⟨b, o, s⟩ : Addr).add (k * 12)).off + 5, none⟩ = some (.string q6))) (by kernel_rfl) (⟨t0, t1, t2, t3, t4, t5⟩) (fun hHeld => ?_)
            refine wpAnyH_take (i := 0) (v := ?_) rfl (by kernel_rfl) (by kernel_rfl) (by kernel_rfl) (fun _ _ _ h => h) (Or.inl ⟨by kernel_rfl, ?_⟩) (by assumption) ?_
            rotate_left
            · (intro w hSw; (try dsimp only at hSw); go_simp); (try with_reducible rfl)
            (try simp only [Act.put, List.getElem_toArray, List.getElem_cons_zero, List.getElem_cons_succ, List.setIfInBounds_toArray, List.set_cons_zero, List.set_cons_succ])
            refine wpAnyH_take (i := 1) (v := ?_) rfl (by kernel_rfl) (by kernel_rfl) (by kernel_rfl) (fun _ _ _ h => h) (Or.inl ⟨by kernel_rfl, ?_⟩) (by assumption) ?_
            rotate_left
            · (intro w hSw; (try dsimp only at hSw); go_simp); (try with_reducible rfl)
            (try simp only [Act.put, List.getElem_toArray, List.getElem_cons_zero, List.getElem_cons_succ, List.setIfInBounds_toArray, List.set_cons_zero, List.set_cons_succ])
            refine wpAnyH_take (i := 2) (v := ?_) rfl (by kernel_rfl) (by kernel_rfl) (by kernel_rfl) (fun _ _ _ h => h) (Or.inl ⟨by kernel_rfl, ?_⟩) (by assumption) ?_
            rotate_left
            · (intro w hSw; (try dsimp only at hSw); go_simp); (try with_reducible rfl)
            (try simp only [Act.put, List.getElem_toArray, List.getElem_cons_zero, List.getElem_cons_succ, List.setIfInBounds_toArray, List.set_cons_zero, List.set_cons_succ])
            refine wpAnyH_take (i := 3) (v := ?_) rfl (by kernel_rfl) (by kernel_rfl) (by kernel_rfl) (fun _ _ _ h => h) (Or.inl ⟨by kernel_rfl, ?_⟩) (by assumption) ?_
            rotate_left
            · (intro w hSw; (try dsimp only at hSw); go_simp); (try with_reducible rfl)
            (try simp only [Act.put, List.getElem_toArray, List.getElem_cons_zero, List.getElem_cons_succ, List.setIfInBounds_toArray, List.set_cons_zero, List.set_cons_succ])
            refine wpAnyH_take (i := 4) (v := ?_) rfl (by kernel_rfl) (by kernel_rfl) (by kernel_rfl) (fun _ _ _ h => h) (Or.inl ⟨by kernel_rfl, ?_⟩) (by assumption) ?_
            rotate_left
            · (intro w hSw; (try dsimp only at hSw); go_simp); (try with_reducible rfl)
            (try simp only [Act.put, List.getElem_toArray, List.getElem_cons_zero, List.getElem_cons_succ, List.setIfInBounds_toArray, List.set_cons_zero, List.set_cons_succ])
            refine wpAnyH_ready (rs := [5]) (by kernel_rfl) (by simp) ?_
            refine AllReadyH.cons rfl (fun K hK => ?_) AllReadyH.nil
            go_simp
            (go_at_call 55; refine (cR _).mono ?_; rintro e w6 ⟨rfl, k6⟩; have z0 := keep_cell k6 t0; have z1 := keep_cell k6 t1; have z2 := keep_cell k6 t2; have z3 := keep_cell k6 t3; have z4 := keep_cell k6 t4; have z5 := keep_cell k6 t5)
            first | (refine hK.out _ _ (⟨z0, z1, z2, z3, z4, z5⟩) (fun hHeld => ?_)) | (go_wp2_with fail; refine hK.out _ _ (⟨z0, z1, z2, z3, z4, z5⟩) (fun hHeld => ?_))
            clear hK K
            (try simp only [Act.put, List.getElem_toArray, List.getElem_cons_zero, List.getElem_cons_succ, List.setIfInBounds_toArray, List.set_cons_zero, List.set_cons_succ])
            refine wpAnyH_take (i := 6) (v := ?_) rfl (by kernel_rfl) (by kernel_rfl) (by kernel_rfl) (fun _ _ _ h => h) (Or.inl ⟨by kernel_rfl, ?_⟩) (by assumption) ?_
            rotate_left
            · (intro w hSw; (try dsimp only at hSw); go_simp); (try with_reducible rfl)
            (try simp only [Act.put, List.getElem_toArray, List.getElem_cons_zero, List.getElem_cons_succ, List.setIfInBounds_toArray, List.set_cons_zero, List.set_cons_succ])
            refine wpAnyH_take (i := 7) (v := ?_) rfl (by kernel_rfl) (by kernel_rfl) (by kernel_rfl) (fun _ _ _ h => h) (Or.inl ⟨by kernel_rfl, ?_⟩) (by assumption) ?_
            rotate_left
            · (intro w hSw; (try dsimp only at hSw); go_simp); (try with_reducible rfl)
            (try simp only [Act.put, List.getElem_toArray, List.getElem_cons_zero, List.getElem_cons_succ, List.setIfInBounds_toArray, List.set_cons_zero, List.set_cons_succ])
            refine wpAnyH_take (i := 8) (v := ?_) rfl (by kernel_rfl) (by kernel_rfl) (by kernel_rfl) (fun _ _ _ h => h) (Or.inl ⟨by kernel_rfl, ?_⟩) (by assumption) ?_
            rotate_left
            · (intro w hSw; (try dsimp only at hSw); go_simp); (try with_reducible rfl)
            (try simp only [Act.put, List.getElem_toArray, List.getElem_cons_zero, List.getElem_cons_succ, List.setIfInBounds_toArray, List.set_cons_zero, List.set_cons_succ])
            refine wpAnyH_take (i := 9) (v := ?_) rfl (by kernel_rfl) (by kernel_rfl) (by kernel_rfl) (fun _ _ _ h => h) (Or.inl ⟨by kernel_rfl, ?_⟩) (by assumption) ?_
            rotate_left
            · (intro w hSw; (try dsimp only at hSw); go_simp); (try with_reducible rfl)
            (try simp only [Act.put, List.getElem_toArray, List.getElem_cons_zero, List.getElem_cons_succ, List.setIfInBounds_toArray, List.set_cons_zero, List.set_cons_succ])
            refine wpAnyH_take (i := 10) (v := ?_) rfl (by kernel_rfl) (by kernel_rfl) (by kernel_rfl) (fun _ _ _ h => h) (Or.inl ⟨by kernel_rfl, ?_⟩) (by assumption) ?_
            rotate_left
            · (intro w hSw; (try dsimp only at hSw); go_simp); (try with_reducible rfl)
            (try simp only [Act.put, List.getElem_toArray, List.getElem_cons_zero, List.getElem_cons_succ, List.setIfInBounds_toArray, List.set_cons_zero, List.set_cons_succ])
            refine wpAnyH_take (i := 11) (v := ?_) rfl (by kernel_rfl) (by kernel_rfl) (by kernel_rfl) (fun _ _ _ h => h) (Or.inl ⟨by kernel_rfl, ?_⟩) (by assumption) ?_
            rotate_left
            · (intro w hSw; (try dsimp only at hSw); go_simp); (try with_reducible rfl)
            (try simp only [Act.put, List.getElem_toArray, List.getElem_cons_zero, List.getElem_cons_succ, List.setIfInBounds_toArray, List.set_cons_zero, List.set_cons_succ])
            refine wpAnyH_take (i := 12) (v := ?_) rfl (by kernel_rfl) (by kernel_rfl) (by kernel_rfl) (fun _ _ _ h => h) (Or.inl ⟨by kernel_rfl, ?_⟩) (by assumption) ?_
            rotate_left
            · (intro w hSw; (try dsimp only at hSw); go_simp); (try with_reducible rfl)
            (try simp only [Act.put, List.getElem_toArray, List.getElem_cons_zero, List.getElem_cons_succ, List.setIfInBounds_toArray, List.set_cons_zero, List.set_cons_succ])
            refine wpAnyH_take (i := 13) (v := ?_) rfl (by kernel_rfl) (by kernel_rfl) (by kernel_rfl) (fun _ _ _ h => h) (Or.inl ⟨by kernel_rfl, ?_⟩) (by assumption) ?_
            rotate_left
            · (intro w hSw; (try dsimp only at hSw); go_simp); (try with_reducible rfl)
            (try simp only [Act.put, List.getElem_toArray, List.getElem_cons_zero, List.getElem_cons_succ, List.setIfInBounds_toArray, List.set_cons_zero, List.set_cons_succ])
            trace_state
            refine wpAnyH_take (i := 14) (v := ?_) rfl (by kernel_rfl) (by kernel_rfl) (by kernel_rfl) (fun _ _ _ h => h) (Or.inl ⟨by kernel_rfl, ?_⟩) (by assumption) ?_
            rotate_left
            · (intro w hSw; (try dsimp only at hSw); go_simp); (try with_reducible rfl)
            (try simp only [Act.put, List.getElem_toArray, List.getElem_cons_zero, List.getElem_cons_succ, List.setIfInBounds_toArray, List.set_cons_zero, List.set_cons_succ])
            refine wpAnyH_take (i := 15) (v := ?_) rfl (by kernel_rfl) (by kernel_rfl) (by kernel_rfl) (fun _ _ _ h => h) (Or.inl ⟨by kernel_rfl, ?_⟩) (by assumption) ?_
            rotate_left
            · (intro w hSw; (try dsimp only at hSw); go_simp); (try with_reducible rfl)
            (try simp only [Act.put, List.getElem_toArray, List.getElem_cons_zero, List.getElem_cons_succ, List.setIfInBounds_toArray, List.set_cons_zero, List.set_cons_succ])
            refine wpAnyH_take (i := 16) (v := undef) rfl (by kernel_rfl) (by kernel_rfl) (by kernel_rfl) (fun _ _ _ h => h) (Or.inr ⟨by kernel_rfl, rfl⟩) (by assumption) ?_
            (try simp only [Act.put, List.getElem_toArray, List.getElem_cons_zero, List.getElem_cons_succ, List.setIfInBounds_toArray, List.set_cons_zero, List.set_cons_succ])
            refine wpAnyH_take (i := 17) (v := undef) rfl (by kernel_rfl) (by kernel_rfl) (by kernel_rfl) (fun _ _ _ h => h) (Or.inr ⟨by kernel_rfl, rfl⟩) (by assumption) ?_
            (try simp only [Act.put, List.getElem_toArray, List.getElem_cons_zero, List.getElem_cons_succ, List.setIfInBounds_toArray, List.set_cons_zero, List.set_cons_succ])
            refine wpAnyH_take (i := 18) (v := undef) rfl (by kernel_rfl) (by kernel_rfl) (by kernel_rfl) (fun _ _ _ h => h) (Or.inr ⟨by kernel_rfl, rfl⟩) (by assumption) ?_
            (try simp only [Act.put, List.getElem_toArray, List.getElem_cons_zero, List.getElem_cons_succ, List.setIfInBounds_toArray, List.set_cons_zero, List.set_cons_succ])
            refine wpAnyH_take (i := 19) (v := undef) rfl (by kernel_rfl) (by kernel_rfl) (by kernel_rfl) (fun _ _ _ h => h) (Or.inr ⟨by kernel_rfl, rfl⟩) (by assumption) ?_
            (try simp only [Act.put, List.getElem_toArray, List.getElem_cons_zero, List.getElem_cons_succ, List.setIfInBounds_toArray, List.set_cons_zero, List.set_cons_succ])
            refine wpAnyH_take (i := 20) (v := undef) rfl (by kernel_rfl) (by kernel_rfl) (by kernel_rfl) (fun _ _ _ h => h) (Or.inr ⟨by kernel_rfl, rfl⟩) (by assumption) ?_
            (try simp only [Act.put, List.getElem_toArray, List.getElem_cons_zero, List.getElem_cons_succ, List.setIfInBounds_toArray, List.set_cons_zero, List.set_cons_succ])
            refine wpAnyH_take (i := 21) (v := undef) rfl (by kernel_rfl) (by kernel_rfl) (by kernel_rfl) (fun _ _ _ h => h) (Or.inr ⟨by kernel_rfl, rfl⟩) (by assumption) ?_
            (try simp only [Act.put, List.getElem_toArray, List.getElem_cons_zero, List.getElem_cons_succ, List.setIfInBounds_toArray, List.set_cons_zero, List.set_cons_succ])
            refine wpAnyH_take (i := 22) (v := undef) rfl (by kernel_rfl) (by kernel_rfl) (by kernel_rfl) (fun _ _ _ h => h) (Or.inr ⟨by kernel_rfl, rfl⟩) (by assumption) ?_
            (try simp only [Act.put, List.getElem_toArray, List.getElem_cons_zero, List.getElem_cons_succ, List.setIfInBounds_toArray, List.set_cons_zero, List.set_cons_succ])
            refine wpAnyH_take (i := 23) (v := undef) rfl (by kernel_rfl) (by kernel_rfl) (by kernel_rfl) (fun _ _ _ h => h) (Or.inr ⟨by kernel_rfl, rfl⟩) (by assumption) ?_
            (try simp only [Act.put, List.getElem_toArray, List.getElem_cons_zero, List.getElem_cons_succ, List.setIfInBounds_toArray, List.set_cons_zero, List.set_cons_succ])
            refine wpAnyH_take (i := 24) (v := undef) rfl (by kernel_rfl) (by kernel_rfl) (by kernel_rfl) (fun _ _ _ h => h) (Or.inr ⟨by kernel_rfl, rfl⟩) (by assumption) ?_
            (try simp only [Act.put, List.getElem_toArray, List.getElem_cons_zero, List.getElem_cons_succ, List.setIfInBounds_toArray, List.set_cons_zero, List.set_cons_succ])
            refine wpAnyH_take (i := 25) (v := undef) rfl (by kernel_rfl) (by kernel_rfl) (by kernel_rfl) (fun _ _ _ h => h) (Or.inr ⟨by kernel_rfl, rfl⟩) (by assumption) ?_
            (try simp only [Act.put, List.getElem_toArray, List.getElem_cons_zero, List.getElem_cons_succ, List.setIfInBounds_toArray, List.set_cons_zero, List.set_cons_succ])
            refine wpAnyH_take (i := 26) (v := undef) rfl (by kernel_rfl) (by kernel_rfl) (by kernel_rfl) (fun _ _ _ h => h) (Or.inr ⟨by kernel_rfl, rfl⟩) (by assumption) ?_
            (try simp only [Act.put, List.getElem_toArray, List.getElem_cons_zero, List.getElem_cons_succ, List.setIfInBounds_toArray, List.set_cons_zero, List.set_cons_succ])
            refine wpAnyH_take (i := 27) (v := undef) rfl (by kernel_rfl) (by kernel_rfl) (by kernel_rfl) (fun _ _ _ h => h) (Or.inr ⟨by kernel_rfl, rfl⟩) (by assumption) ?_
            (try simp only [Act.put, List.getElem_toArray, List.getElem_cons_zero, List.getElem_cons_succ, List.setIfInBounds_toArray, List.set_cons_zero, List.set_cons_succ])
            refine wpAnyH_take (i := 28) (v := undef) rfl (by kernel_rfl) (by kernel_rfl) (by kernel_rfl) (fun _ _ _ h => h) (Or.inr ⟨by kernel_rfl, rfl⟩) (by assumption) ?_
            (try simp only [Act.put, List.getElem_toArray, List.getElem_cons_zero, List.getElem_cons_succ, List.setIfInBounds_toArray, List.set_cons_zero, List.set_cons_succ])
            refine wpAnyH_take (i := 29) (v := ?_) rfl (by kernel_rfl) (by kernel_rfl) (by kernel_rfl) (fun _ _ _ h => h) (Or.inl ⟨by kernel_rfl, ?_⟩) (by assumption) ?_
            rotate_left
            · (intro w hSw; (try dsimp only at hSw); go_simp); (try with_reducible rfl)
            (try simp only [Act.put, List.getElem_toArray, List.getElem_cons_zero, List.getElem_cons_succ, List.setIfInBounds_toArray, List.set_cons_zero, List.set_cons_succ])
            refine wpAnyH_done (by kernel_rfl) ?_ _
            go_wp2
            go_roundw
            case rel => exact ⟨k + 1, by omega, by go_num, hst, kp5.trans k6.of_drew⟩
            case measure => simp [intOf]; omega
          case inr.inr.inl =>
            have hbf : bad (⟨q1, q2, q3, q4, q5, q6⟩, ⟨q7, q8, q9, q10, q11, q12⟩) (⟨p1, p2, p3, p4, p5, p6⟩, ⟨p7, p8, p9, p10, p11, p12⟩) = false := by
              rw [HBad.out]
              rw [h3]; simp
            have hst := Hid.of (upto_step (R := fun p q => p.1 = q.1 ∧ bad p q = false) hT.out HG.out.1 HG.out.2 ⟨HX.out, hbf⟩)
            clear hbf HBad
            subst h1
            have h4 : (q7 != p7) = false := by simpa using h3
            go_wp2
            go_region_held3 (fun wx : World => wx.cell? ((⟨b, o, s⟩ : Addr).add (k * 12)) = some (.int .i64 q1) ∧ wx.cell? ⟨((⟨b, o, s⟩ : Addr).add (k * 12)).block, ((⟨b, o, s⟩ : Addr).add (k * 12)).off + 1, none⟩ = some (.int .i64 q2) ∧ wx.cell? ⟨((⟨b, o, s⟩ : Addr).add (k * 12)).block, ((⟨b, o, s⟩ : Addr).add (k * 12)).off + 2, none⟩ = some (.int .i64 q3) ∧ wx.cell? ⟨((⟨b, o, s⟩ : Addr).add (k * 12)).block, ((⟨b, o, s⟩ : Addr).add (k * 12)).off + 3, none⟩ = some (.int .i64 q4) ∧ wx.cell? ⟨((⟨b, o, s⟩ : Addr).add (k * 12)).block, ((⟨b, o, s⟩ : Addr).add (k * 12)).off + 4, none⟩ = some (.int .u64 q5) ∧ wx.cell? ⟨((⟨b, o, s⟩ : Addr).add (k * 12)).block, ((⟨b, o, s⟩ : Addr).add (k * 12)).off + 5, none⟩ = some (.string q6) ∧ wx.cell? ⟨((⟨b, o, s⟩ : Addr).add (k * 12)).block, ((⟨b, o, s⟩ : Addr).add (k * 12)).off + 6, none⟩ = some (.int .i64 q7) ∧ wx.cell? ⟨((⟨b', o', s'⟩ : Addr).add (k * 12)).block, ((⟨b', o', s'⟩ : Addr).add (k * 12)).off + 6, none⟩ = some (.int .i64 p7))
              (first | exact ⟨t0, t1, t2, t3, t4, t5, t6, t7⟩ | exact ⟨z0, z1, z2, z3, z4, z5, z6, z7⟩)
              (first | (go_at_call 55; refine (cR _).mono ?_; rintro e w6 ⟨rfl, k6⟩; have z0 := keep_cell k6 t0; have z1 := keep_cell k6 t1; have z2 := keep_cell k6 t2; have z3 := keep_cell k6 t3; have z4 := keep_cell k6 t4; have z5 := keep_cell k6 t5; have z6 := keep_cell k6 t6; have z7 := keep_cell k6 t7))
            go_wp2
            go_roundw
            case rel => exact ⟨k + 1, by omega, by go_num, hst, kp5.trans k6.of_drew⟩
            case measure => simp [intOf]; omega
        · have e1 : opEq q1 q2 q3 q4 q5 q6 p1 p2 p3 p4 p5 p6 = false := decide_eq_false hxy
          have hf' : r = false := by
            cases r with
            | false => rfl
            | true => exact absurd ((HI.out.1 rfl).2 k _ _ HG.out.1 HG.out.2).1 hxy
          subst hf'
          clear hxy
          go_wp2
          go_quiet (fail)
          go_wp2
          go_ret
          exact ⟨rfl, kp.trans ((Keeps.refl _ _).drewN _)⟩
      · have hke : k = xs.length := by omega
        have hk1 : decide ((k : Int) < xs.length) = false := by simp; omega
        have hrt : r = true := by
          rw [HI.out]
          refine ⟨HL.out, fun i p q hp hq => hT.out i p q ?_ hp hq⟩
          have := (List.getElem?_eq_some_iff.1 hp).1
          omega
        subst hrt
        clear hke
        go_wp2
        go_ret
        exact ⟨rfl, kp⟩
  · have hl' : ((xs.length : Int) != (ys.length : Int)) = true := by simp; omega
    have hf' : r = false := by
      cases r with
      | false => rfl
      | true => exact absurd (HI.out.1 rfl).1 hl
    subst hf'
    clear hl
    go_enter Try.func20, Try.ntmps20
    go_wp2
    go_ret
    exact ⟨rfl, Keeps.refl _ _⟩
end Proj
end Go.Proofs.Ytmlolkjgniodpaa
