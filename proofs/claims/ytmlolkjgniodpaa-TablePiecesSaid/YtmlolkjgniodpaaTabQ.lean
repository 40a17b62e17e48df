/- The plain law of pieces. -/
import Derived.Test.YtmlolkjgniodpaaTabF
set_option linter.unusedVariables false
set_option linter.unusedSimpArgs false
namespace Go.Proofs.Ytmlolkjgniodpaa
namespace Tab
def page (s : Sp) : Int := s.at' / 512
def bytes (L : List Sp) : Int := (L.map Sp.n).sum
theorem bytes_nil : bytes [] = 0 := rfl
theorem bytes_cons (s : Sp) (L : List Sp) : bytes (s :: L) = s.n + bytes L := by simp [bytes]
theorem bytes_append (L M : List Sp) : bytes (L ++ M) = bytes L + bytes M := by simp [bytes]
theorem least_bounds (n o : Int) (h : 0 < n) (ho : 0 ≤ o ∧ o < 512) : 1 ≤ least n o ∧ least n o ≤ n ∧ least n o ≤ 512 - o ∧ (least n o = n ∨ least n o = 512 - o) := by unfold least; split <;> omega
def Piece (G : Prs) (lo : Int) (s : Sp) : Prop := 1 ≤ s.n ∧ 0 ≤ s.at' ∧ s.at' % 512 + s.n ≤ 512 ∧ lo ≤ fnd G (page s) ∧ s.at' ≤ 1048576 * 512 + 511 ∧ s.n ≤ 512
theorem pcs_law {E G : Prs} (h : Inv E G) : ∀ (f : Nat) (a n : Int) (L : List Sp), pcs E f a n = some L → 0 ≤ a → 0 ≤ n → n ≤ f → (∀ s ∈ L, Piece G (a / 512) s) ∧ (L.map page).Nodup ∧ bytes L = n
  | 0, a, n, L, he, ha, hn, hf => by
    simp only [pcs, Option.some.injEq] at he
    subst he
    exact ⟨by simp, by simp, by rw [bytes_nil]; omega⟩
  | f + 1, a, n, L, he, ha, hn, hf => by
    simp only [pcs] at he
    by_cases h0 : n ≤ 0
    · rw [if_pos h0] at he
      cases he
      exact ⟨by simp, by simp, by rw [bytes_nil]; omega⟩
    · rw [if_neg h0] at he
      by_cases h1 : fnd E (a / 512) < 0
      · rw [if_pos h1] at he; cases he
      · rw [if_neg h1] at he
        have hl := least_bounds n (a % 512) (by omega) (by omega)
        generalize least n (a % 512) = k at *
        cases hr : pcs E f (a + k) (n - k) with
        | none => rw [hr] at he; cases he
        | some M =>
          rw [hr] at he
          simp only [Option.map_some, Option.some.injEq] at he
          subst he
          obtain ⟨p1, p2, p3⟩ := pcs_law h f (a + k) (n - k) M hr (by omega) (by omega) (by omega)
          have hg := h.get h1
          have hb := h.ab _ _ hg
          generalize hp : fnd E (a / 512) = p at *
          have hpg : page ⟨p * 512 + a % 512, k, false⟩ = p := by unfold page; simp only []; omega
          have hG : fnd G p = a / 512 := fnd_some hb.1
          have hM : n - k = 0 ∨ (a + k) / 512 = a / 512 + 1 := by omega
          have hM0 : n - k = 0 → M = [] := by
            intro e
            rw [e] at hr
            cases f with
            | zero => simpa [pcs] using hr.symm
            | succ f => simpa [pcs] using hr.symm
          refine ⟨?_, ?_, ?_⟩
          · intro s hs
            rcases List.mem_cons.1 hs with rfl | hs
            · unfold Piece
              rw [hpg, hG]
              simp only []
              omega
            · have := p1 s hs
              unfold Piece at this ⊢
              omega
          · rw [List.map_cons, List.nodup_cons]
            refine ⟨?_, p2⟩
            rw [hpg]
            intro hm
            obtain ⟨s, hs, e⟩ := List.mem_map.1 hm
            rcases hM with e1 | e1
            · rw [hM0 e1] at hs; simp at hs
            · have := p1 s hs
              unfold Piece at this
              rw [e, hG, e1] at this
              omega
          · rw [bytes_cons, p3]; simp only []; omega
theorem pieces_law {E G : Prs} (h : Inv E G) {a n : Int} {L : List Sp} (hL : pieces E a n = some L) : (∀ s ∈ L, Piece G 256 s) ∧ (L.map page).Nodup ∧ bytes L = n := by
  unfold pieces at hL
  split at hL
  · rename_i hw
    obtain ⟨g1, g2, g3⟩ : 0 ≤ n ∧ 131072 ≤ a ∧ a + n ≤ 3276800 := by unfold within at hw; simpa using hw
    obtain ⟨p1, p2, p3⟩ := pcs_law h n.toNat a n L hL (by omega) g1 (by omega)
    refine ⟨fun s hs => ?_, p2, p3⟩
    have := p1 s hs
    unfold Piece at this ⊢
    omega
  · cases hL
end Tab
end Go.Proofs.Ytmlolkjgniodpaa
