/- Spans (api.Span): their cells, their equality, garthref01.Same. -/
import Derived.Test.YtcjdejhjbelggaaSame
import Derived.Test.YtcjdejhjbelggaaArgs
import Derived.Laws.StructEq
set_option linter.unusedVariables false
set_option linter.unusedSimpArgs false
namespace Go.Proofs.Ytcjdejhjbelggaa
open Go.RowKit Go.ChangeMaps
structure Sp where
  at' : Int
  n : Int
  wrote : Bool
deriving DecidableEq
def Sp.enc (s : Sp) : List Value := [.int .i64 s.at', .int .i64 s.n, .bool s.wrote]
def spans (L : List Sp) : List Value := L.flatMap Sp.enc
theorem spans_append (L M : List Sp) : spans (L ++ M) = spans L ++ spans M := by simp [spans]
theorem spans_length (L : List Sp) : (spans L).length = L.length * 3 := by
  induction L with
  | nil => rfl
  | cons a l ih => simp only [spans, List.flatMap_cons, List.length_append, List.length_cons] at *; rw [ih]; show 3 + _ = _; omega
theorem slSpans : SlT Try.prog 37 49 3 24 := SlT.mk' (z := .agg #[.int .i64 0, .int .i64 0, .bool false]) Try.underlying37 (by kernel_rfl) rfl (by decide)
theorem sp_cells {w : World} {A : Option Addr} {xs : List Sp} (h : Rd w A (spans xs)) (j : Nat) (hj : j < xs.length) :
    ∃ b o s x y z, xs[j]? = some ⟨x, y, z⟩ ∧ A = some ⟨b, o, s⟩ ∧ w.cell? ((⟨b, o, s⟩ : Addr).add (j * 3)) = some (.int .i64 x) ∧ w.cell? ⟨((⟨b, o, s⟩ : Addr).add (j * 3)).block, ((⟨b, o, s⟩ : Addr).add (j * 3)).off + 1, none⟩ = some (.int .i64 y) ∧
      w.cell? ⟨((⟨b, o, s⟩ : Addr).add (j * 3)).block, ((⟨b, o, s⟩ : Addr).add (j * 3)).off + 2, none⟩ = some (.bool z) := by
  have e := List.getElem?_eq_getElem hj
  have e0 := flatMap_get Sp.enc 3 (fun _ => rfl) xs j _ e 0 (by omega)
  have e1 := flatMap_get Sp.enc 3 (fun _ => rfl) xs j _ e 1 (by omega)
  have e2 := flatMap_get Sp.enc 3 (fun _ => rfl) xs j _ e 2 (by omega)
  obtain ⟨ad, rfl, h0⟩ := h _ _ e0
  obtain ⟨ad', ha, h1⟩ := h _ _ e1
  cases ha
  obtain ⟨ad', ha, h2⟩ := h _ _ e2
  cases ha
  exact ⟨ad.block, ad.off, ad.spot, _, _, _, e, rfl, h0, cell_field (by omega) h1, cell_field (by omega) h2⟩
set_option maxRecDepth 100000 in
set_option maxHeartbeats 1000000 in
theorem same_span (w : World) (A B : Option Addr) (ca cb : Nat) (xs ys : List Sp) (ha : Rd w A (spans xs)) (hb : Rd w B (spans ys)) (hx : xs.length ≤ maxLen) (hy : ys.length ≤ maxLen) :
    Calls Try.prog 15 #[.slice A xs.length ca, .slice B ys.length cb] w fun e w' => e = .returned (.bool (decide (xs = ys))) ∧ ∃ n, w' = w.drewN n := by
  unfold maxLen at hx hy
  obtain ⟨r, hr⟩ : ∃ r, decide (xs = ys) = r := ⟨_, rfl⟩
  rw [hr]
  have HR : Hid _ := hr
  clear hr
  by_cases hl : xs.length = ys.length
  · have hl' : ((xs.length : Int) != (ys.length : Int)) = false := by simp [hl]
    have HL : Hid (xs.length = ys.length) := hl
    clear hl
    go_enter Try.func15, Try.ntmps15
    go_wp2
    go_loopw [5] (fun i wr => ∃ k : Nat, k ≤ xs.length ∧ i = .int .i64 k ∧ Hid (xs.take k = ys.take k) ∧ ∃ n, wr = w.drewN n) (fun i _ => xs.length - (intOf i).toNat)
    case atStart => exact ⟨0, Nat.zero_le _, rfl, rfl, 0, rfl⟩
    case round =>
      obtain ⟨k, hk, rfl, hT, n, rfl⟩ := hrel
      by_cases hlt : k < xs.length
      · have hlt2 : k < ys.length := by rw [← HL.out]; exact hlt
        obtain ⟨b1, o1, s1, x, y, z, q1, rfl, hc1, hc2, hc3⟩ := sp_cells ha k hlt
        obtain ⟨b2, o2, s2, x', y', z', q2, rfl, hd1, hd2, hd3⟩ := sp_cells hb k hlt2
        have hk1 : decide ((k : Int) < xs.length) = true := by simp; omega
        have hk2 : decide ((k : Int) < ys.length) = true := by simp; omega
        have E1 : Hid (xs.take (k + 1) = xs.take k ++ [⟨x, y, z⟩]) := by rw [List.take_add_one, q1]; exact rfl
        have E2 : Hid (ys.take (k + 1) = ys.take k ++ [⟨x', y', z'⟩]) := by rw [List.take_add_one, q2]; exact rfl
        have Q1 := Hid.of q1
        have Q2 := Hid.of q2
        clear q1 q2
        by_cases hxy : (⟨x, y, z⟩ : Sp) = ⟨x', y', z'⟩
        · cases hxy
          have hxx : (x == x) = true := by simp
          go_wp2
          go_quiet (fail)
          go_wp2
          go_roundw
          case rel => exact ⟨k + 1, by omega, by go_num, show xs.take (k + 1) = ys.take (k + 1) by rw [E1.out, E2.out, hT.out], n + nq, rfl⟩
          case measure => simp [intOf]; omega
        · have hf : decide (xs = ys) = false := by
            rw [decide_eq_false_iff_not]
            rintro rfl
            have := E1.out.symm.trans E2.out
            rw [List.append_cancel_left_eq] at this
            exact hxy (by cases this; rfl)
          have hf' : Hid (r = false) := by rw [← HR.out]; exact hf
          have hsp : x ≠ x' ∨ (x = x' ∧ y ≠ y') ∨ (x = x' ∧ y = y' ∧ z ≠ z') := by
            by_cases e1 : x = x'
            · by_cases e2 : y = y'
              · exact .inr (.inr ⟨e1, e2, fun e3 => hxy (by rw [e1, e2, e3])⟩)
              · exact .inr (.inl ⟨e1, e2⟩)
            · exact .inl e1
          clear hxy hf
          rcases hsp with e1 | ⟨rfl, e1⟩ | ⟨rfl, rfl, e1⟩
          all_goals
            first | (have hxx : (x == x') = false := by simp [e1]) | (have hxx : (y == y') = false := by simp [e1]) | (have hxx : (z == z') = false := by simp [e1])
            have HE := Hid.of e1
            clear e1
            go_wp2
            go_quiet (fail)
            go_wp2
            go_ret
            exact ⟨by rw [hf'.out]; rfl, n + nq, by unfold World.drewN; simp [Nat.add_assoc]⟩
      · have hke : k = xs.length := by omega
        have hk1 : decide ((k : Int) < xs.length) = false := by simp; omega
        have HKE : Hid _ := hke
        clear hke
        go_wp2
        go_ret
        refine ⟨?_, n, rfl⟩
        have : decide (xs = ys) = true := by
          have := hT.out
          rw [HKE.out, List.take_length, HL.out, List.take_length] at this
          rw [this]; simp
        rw [← HR.out, this]; rfl
  · have hl' : ((xs.length : Int) != (ys.length : Int)) = true := by simp; omega
    have hne : decide (xs = ys) = false := by
      rw [decide_eq_false_iff_not]; rintro rfl; exact hl rfl
    rw [HR.out] at hne
    subst hne
    clear hl
    go_enter Try.func15, Try.ntmps15
    go_wp2
    go_ret
    exact ⟨rfl, 0, rfl⟩
theorem same_span_is (w : World) (A B : Option Addr) (ca cb : Nat) (xs ys : List Sp) (n m : Nat) (ha : Rd w A (spans xs)) (hb : Rd w B (spans ys)) (hn : xs.length = n) (hm : ys.length = m) (hx : n ≤ 1000000) (hy : m ≤ 1000000) :
    Calls Try.prog 15 #[.slice A n ca, .slice B m cb] w fun e w' => e = .returned (.bool (decide (xs = ys))) ∧ Keeps (fun _ => False) w w' := by
  subst hn hm
  exact (same_span w A B ca cb xs ys ha hb (by unfold maxLen; omega) (by unfold maxLen; omega)).mono fun e w' ⟨h, n, hw⟩ => ⟨h, hw ▸ (Keeps.refl _ _).drewN n⟩
end Go.Proofs.Ytcjdejhjbelggaa
