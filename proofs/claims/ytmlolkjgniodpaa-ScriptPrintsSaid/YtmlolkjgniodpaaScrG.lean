/- Rows of steps: their cells, their equality, same, great. -/
import Derived.Test.YtmlolkjgniodpaaScrH
import Derived.Test.YtmlolkjgniodpaaRec
set_option linter.unusedVariables false
set_option linter.unusedSimpArgs false
namespace Go.Proofs.Ytmlolkjgniodpaa
open Go.RowKit Go.ChangeMaps
attribute [-go_sem] run_index_string run_neq_struct run_eql_struct run_equalIn_agg
namespace Scr
def stps (L : List Stp) : List Value := L.flatMap Stp.enc
theorem stps_append (L M : List Stp) : stps (L ++ M) = stps L ++ stps M := by simp [stps]
theorem stps_length (L : List Stp) : (stps L).length = L.length * 7 := flat_length Stp.enc 7 (fun _ => rfl) L
theorem slSteps : SlT Try.prog 77 108 7 64 := SlT.mk' (z := .agg #[.int .i64 0, .int .i64 0, .int .i64 0, .int .i64 0, .int .u64 0, .string ⟨#[]⟩, .int .i64 0]) Try.underlying77 (by kernel_rfl) rfl (by decide)
theorem rstp {w : World} {A : Option Addr} {xs : List Stp} (h : Rd w A (stps xs)) (j : Nat) (hj : j < xs.length) :
    ∃ b o s k t n m hh d bk, xs[j]? = some ⟨k, t, n, m, hh, d, bk⟩ ∧ A = some ⟨b, o, s⟩ ∧ w.cell? ((⟨b, o, s⟩ : Addr).add (j * 7)) = some (.int .i64 k) ∧ w.cell? ⟨((⟨b, o, s⟩ : Addr).add (j * 7)).block, ((⟨b, o, s⟩ : Addr).add (j * 7)).off + 1, none⟩ = some (.int .i64 t) ∧
      w.cell? ⟨((⟨b, o, s⟩ : Addr).add (j * 7)).block, ((⟨b, o, s⟩ : Addr).add (j * 7)).off + 2, none⟩ = some (.int .i64 n) ∧ w.cell? ⟨((⟨b, o, s⟩ : Addr).add (j * 7)).block, ((⟨b, o, s⟩ : Addr).add (j * 7)).off + 3, none⟩ = some (.int .i64 m) ∧
      w.cell? ⟨((⟨b, o, s⟩ : Addr).add (j * 7)).block, ((⟨b, o, s⟩ : Addr).add (j * 7)).off + 4, none⟩ = some (.int .u64 hh) ∧ w.cell? ⟨((⟨b, o, s⟩ : Addr).add (j * 7)).block, ((⟨b, o, s⟩ : Addr).add (j * 7)).off + 5, none⟩ = some (.string (bs d)) ∧
      w.cell? ⟨((⟨b, o, s⟩ : Addr).add (j * 7)).block, ((⟨b, o, s⟩ : Addr).add (j * 7)).off + 6, none⟩ = some (.int .i64 bk) := by
  have e := List.getElem?_eq_getElem hj
  have g := flatMap_get Stp.enc 7 (fun _ => rfl) xs j _ e
  obtain ⟨ad, rfl, h0⟩ := h _ _ (g 0 (by omega))
  obtain ⟨a1, q, h1⟩ := h _ _ (g 1 (by omega)); cases q
  obtain ⟨a1, q, h2⟩ := h _ _ (g 2 (by omega)); cases q
  obtain ⟨a1, q, h3⟩ := h _ _ (g 3 (by omega)); cases q
  obtain ⟨a1, q, h4⟩ := h _ _ (g 4 (by omega)); cases q
  obtain ⟨a1, q, h5⟩ := h _ _ (g 5 (by omega)); cases q
  obtain ⟨a1, q, h6⟩ := h _ _ (g 6 (by omega)); cases q
  exact ⟨_, _, _, _, _, _, _, _, _, _, e, rfl, h0, cell_field (by omega) h1, cell_field (by omega) h2, cell_field (by omega) h3, cell_field (by omega) h4, cell_field (by omega) h5, cell_field (by omega) h6⟩
def stEq (k t n m h : Int) (d : Bs) (b k' t' n' m' h' : Int) (d' : Bs) (b' : Int) : Bool := decide ((⟨k, t, n, m, h, d, b⟩ : Stp) = ⟨k', t', n', m', h', d', b'⟩)
set_option maxRecDepth 100000 in
set_option maxHeartbeats 1000000 in
theorem eq_stp (e : Nat) (w : World) (k t n m h b k' t' n' m' h' b' : Int) (d d' : Bs) :
    (Op.equalIn (e + 3) 108 (.agg #[.int .i64 k, .int .i64 t, .int .i64 n, .int .i64 m, .int .u64 h, .string (bs d), .int .i64 b]) (.agg #[.int .i64 k', .int .i64 t', .int .i64 n', .int .i64 m', .int .u64 h', .string (bs d'), .int .i64 b'])).run Try.prog w =
      .ok (stEq k t n m h d b k' t' n' m' h' d' b') w := by
  have hd : stEq k t n m h d b k' t' n' m' h' d' b' = ((decide ((⟨k, t, n, m, h, bs d⟩ : XOp) = ⟨k', t', n', m', h', bs d'⟩)) && ((b == b') && true)) := by
    unfold stEq
    rw [Bool.eq_iff_iff]
    simp only [decide_eq_true_eq, Stp.mk.injEq, Bool.and_eq_true, Bool.and_true, beq_iff_eq, XOp.mk.injEq]
    constructor
    · rintro ⟨h1, h2, h3, h4, h5, h6, h7⟩
      exact ⟨⟨h1, h2, h3, h4, h5, by rw [h6]⟩, h7⟩
    · rintro ⟨⟨h1, h2, h3, h4, h5, h6⟩, h7⟩
      exact ⟨h1, h2, h3, h4, h5, bs_inj h6, h7⟩
  rw [hd]
  refine eq_of_fields Try.underlying108 (by kernel_rfl) ?_
  refine eqf_step (by decide) (by kernel_rfl) (by kernel_rfl) (eq_op e w k t n m h k' t' n' m' h' (bs d) (bs d')) ?_
  refine eqf_step (by decide) (by kernel_rfl) (by kernel_rfl) (eqI_of (k := .i64) Try.underlying3) ?_
  exact eqf_none
theorem neq_stp (w : World) (k t n m h b k' t' n' m' h' b' : Int) (d d' : Bs) :
    (binOp .neq 108 (.agg #[.int .i64 k, .int .i64 t, .int .i64 n, .int .i64 m, .int .u64 h, .string (bs d), .int .i64 b]) (.agg #[.int .i64 k', .int .i64 t', .int .i64 n', .int .i64 m', .int .u64 h', .string (bs d'), .int .i64 b'])).run Try.prog w =
      .ok (.bool (!stEq k t n m h d b k' t' n' m' h' d' b')) w := by
  rw [run_neq_struct, eq_stp]; rfl
theorem eql_stp (w : World) (k t n m h b k' t' n' m' h' b' : Int) (d d' : Bs) :
    (binOp .eql 108 (.agg #[.int .i64 k, .int .i64 t, .int .i64 n, .int .i64 m, .int .u64 h, .string (bs d), .int .i64 b]) (.agg #[.int .i64 k', .int .i64 t', .int .i64 n', .int .i64 m', .int .u64 h', .string (bs d'), .int .i64 b'])).run Try.prog w =
      .ok (.bool (stEq k t n m h d b k' t' n' m' h' d' b')) w := by
  rw [run_eql_struct, eq_stp]; rfl
set_option maxRecDepth 100000 in
set_option maxHeartbeats 1000000 in
theorem same_any (w : World) (A B : Option Addr) (ca cb : Nat) (xs ys : List Stp) (n m : Nat) (ha : Rd w A (stps xs)) (hb : Rd w B (stps ys)) (hn : xs.length = n) (hm : ys.length = m) (hx : n ≤ 1000000) (hy : m ≤ 1000000) :
    Calls Try.prog 47 #[.slice A n ca, .slice B m cb] w fun e w' => e = .returned (.bool (decide (xs = ys))) ∧ Keeps (fun _ => False) w w' := by
  subst hn hm
  obtain ⟨r, hr⟩ : ∃ r, decide (xs = ys) = r := ⟨_, rfl⟩
  rw [hr]
  have HR : Hid _ := hr
  clear hr
  by_cases hl : xs.length = ys.length
  · have hl' : ((xs.length : Int) != (ys.length : Int)) = false := by simp [hl]
    have HL : Hid (xs.length = ys.length) := hl
    clear hl
    go_enter Try.func47, Try.ntmps47
    go_wp2
    go_loopw [13] (fun i wr => ∃ k : Nat, k ≤ xs.length ∧ i = .int .i64 k ∧ Hid (xs.take k = ys.take k) ∧ Keeps (fun _ => False) w wr) (fun i _ => xs.length - (intOf i).toNat)
    case atStart => exact ⟨0, Nat.zero_le _, rfl, rfl, Keeps.refl _ _⟩
    case round =>
      obtain ⟨k, hk, rfl, hT, kp⟩ := hrel
      by_cases hlt : k < xs.length
      · have hlt2 : k < ys.length := by rw [← HL.out]; exact hlt
        obtain ⟨b1, o1, s1, x1, x2, x3, x4, x5, x6, x7, q1, rfl, c0, c1, c2, c3, c4, c5, c6⟩ := rstp (ha.old kp) k hlt
        obtain ⟨b2, o2, s2, y1, y2, y3, y4, y5, y6, y7, q2, rfl, d0, d1, d2, d3, d4, d5, d6⟩ := rstp (hb.old kp) k hlt2
        have hk1 : decide ((k : Int) < xs.length) = true := by simp; omega
        have hk2 : decide ((k : Int) < ys.length) = true := by simp; omega
        have E1 : Hid (xs.take (k + 1) = xs.take k ++ [⟨x1, x2, x3, x4, x5, x6, x7⟩]) := by rw [List.take_add_one, q1]; exact rfl
        have E2 : Hid (ys.take (k + 1) = ys.take k ++ [⟨y1, y2, y3, y4, y5, y6, y7⟩]) := by rw [List.take_add_one, q2]; exact rfl
        have nq := fun w => neq_stp w x1 x2 x3 x4 x5 x7 y1 y2 y3 y4 y5 y7 x6 y6
        clear q1 q2
        by_cases hxy : (⟨x1, x2, x3, x4, x5, x6, x7⟩ : Stp) = ⟨y1, y2, y3, y4, y5, y6, y7⟩
        · have hxx : stEq x1 x2 x3 x4 x5 x6 x7 y1 y2 y3 y4 y5 y6 y7 = true := by unfold stEq; simpa using hxy
          have HXY := Hid.of hxy
          clear hxy
          rw [hxx] at nq
          clear hxx
          go_wp2
          go_quiet (fail)
          go_wp2
          go_roundw
          case rel => exact ⟨k + 1, by omega, by go_num, show xs.take (k + 1) = ys.take (k + 1) by rw [E1.out, E2.out, hT.out, HXY.out], kp.drewN _⟩
          case measure => simp [intOf]; omega
        · have hf : decide (xs = ys) = false := by
            rw [decide_eq_false_iff_not]
            rintro rfl
            have := E1.out.symm.trans E2.out
            rw [List.append_cancel_left_eq] at this
            exact hxy (by simpa using this)
          have hf' : Hid (r = false) := by rw [← HR.out]; exact hf
          have hxx : stEq x1 x2 x3 x4 x5 x6 x7 y1 y2 y3 y4 y5 y6 y7 = false := by unfold stEq; simpa using hxy
          clear hxy hf
          rw [hxx] at nq
          clear hxx
          go_wp2
          go_quiet (fail)
          go_wp2
          go_ret
          exact ⟨by rw [hf'.out]; rfl, kp.drewN _⟩
      · have hke : k = xs.length := by omega
        have hk1 : decide ((k : Int) < xs.length) = false := by simp; omega
        have HKE : Hid _ := hke
        clear hke
        go_wp2
        go_ret
        refine ⟨?_, kp⟩
        have : decide (xs = ys) = true := by
          have := hT.out
          rw [HKE.out, List.take_length, HL.out, List.take_length] at this
          rw [this]; simp
        rw [← HR.out, this]; rfl
  · have hl' : ((xs.length : Int) != (ys.length : Int)) = true := by simp; omega
    have hne : decide (xs = ys) = false := by
      rw [decide_eq_false_iff_not]; rintro rfl; exact hl rfl
    rw [HR.out] at hne
    subst hne
    clear hl
    go_enter Try.func47, Try.ntmps47
    go_wp2
    go_ret
    exact ⟨rfl, Keeps.refl _ _⟩
end Scr
end Go.Proofs.Ytmlolkjgniodpaa
