/- HeapFew's plain law: pages are few as long as costs are. -/
import Derived.Test.YtnheibcjcgacpaaGreatDoorHip
import Derived.Test.YtnheibcjcgacpaaGreatDoorRf5
set_option linter.unusedVariables false
set_option linter.unusedSimpArgs false
namespace Go.Proofs.YtnheibcjcgacpaaGreatDoor
open Go.RowKit Go.ChangeMaps
namespace Few
open Pgi He Pg Hin Rf
def rsum : Nat → (Nat → Nat) → Nat
  | 0, _ => 0
  | n + 1, f => rsum n f + f n
theorem rsum_same {f g : Nat → Nat} : ∀ n, (∀ i, i < n → g i = f i) → rsum n g = rsum n f
  | 0, _ => rfl
  | n + 1, h => by
    have h1 := rsum_same n (fun i hi => h i (by omega))
    have h2 := h n (by omega)
    unfold rsum; omega
theorem rsum_up {f g : Nat → Nat} {c d : Nat} : ∀ n, c < n → (∀ i, i < n → i ≠ c → g i = f i) → g c = f c + d → rsum n g = rsum n f + d
  | 0, h, _, _ => by omega
  | n + 1, h, h1, h2 => by
    by_cases e : c = n
    · have h3 := rsum_same (f := f) (g := g) n (fun i hi => h1 i (by omega) (by omega))
      subst e
      unfold rsum; omega
    · have h3 := rsum_up n (by omega) (fun i hi => h1 i (by omega)) h2
      have h4 := h1 n (by omega) (by omega)
      unfold rsum; omega
theorem rsum_ge {f : Nat → Nat} {c : Nat} : ∀ n, c < n → f c ≤ rsum n f
  | 0, h => by omega
  | n + 1, h => by
    by_cases e : c = n
    · subst e; unfold rsum; omega
    · have := rsum_ge (f := f) n (show c < n by omega)
      unfold rsum; omega
theorem rsum_le {f g : Nat → Nat} : ∀ n, (∀ i, i < n → f i ≤ g i) → rsum n f ≤ rsum n g
  | 0, _ => Nat.le_refl _
  | n + 1, h => by
    have h1 := rsum_le n (fun i hi => h i (by omega))
    have h2 := h n (by omega)
    unfold rsum; omega
theorem rsum_mul {f : Nat → Nat} {p : Nat} : ∀ n, rsum n (fun i => f i * p) = rsum n f * p
  | 0 => by simp [rsum]
  | n + 1 => by
    have h1 := rsum_mul (f := f) (p := p) n
    simp only [rsum]
    rw [h1, Nat.add_mul]
theorem rsum_split {f : Nat → Nat} (m : Nat) : ∀ n, rsum (m + n) f = rsum m f + rsum n (fun i => f (m + i))
  | 0 => by simp [rsum]
  | n + 1 => by
    have h1 := rsum_split (f := f) m n
    have e : m + (n + 1) = (m + n) + 1 := rfl
    rw [e]
    simp only [rsum]
    omega
/-- Taken? -/
def tk (t : T3) (c s : Nat) : Nat := if (t.H.F c).getD s false then 0 else 1
/-- So many blocks of a slot. -/
def usS (t : T3) (c s : Nat) : Nat := match eget t.H.D ((Pc.loc c s : Nat) : Int) with
  | some P => used P
  | none => 0
def K (t : T3) (c : Nat) : Nat := rsum (Pc.slots c) (tk t c)
def U (t : T3) (c : Nat) : Nat := if c < 8 then rsum (Pc.slots c) (usS t c) else K t c
def pgsT (t : T3) : Nat := rsum 24 (fun c => K t c * Pc.pgs c)
def costT (t : T3) : Nat := rsum 24 (fun c => U t c * Pc.un c)
/-- What holds as long as costs stay within a quota. -/
structure FI (t : T3) (cost q : Nat) : Prop where
  len : t.H.E.length = pgsT t
  cst : cost = costT t
  le : cost ≤ q
  by' : ∀ c, c < 8 → K t c ≤ byN c q
theorem un_great {c : Nat} (h : 8 ≤ c) : Pc.un c = Pc.pgs c * 512 := by
  unfold Pc.un Pc.pgs
  rw [if_neg (by omega), if_neg (by omega)]
theorem sumBy_eq (q : Nat) : ∀ n, sumBy q n = rsum n (fun c => byN c q)
  | 0 => rfl
  | n + 1 => by
    show sumBy q n + byN n q = rsum n (fun c => byN c q) + byN n q
    rw [sumBy_eq q n]
theorem FI.few {t : T3} {cost q : Nat} (h : FI t cost q) : t.H.E.length ≤ pagesN q := by
  have h1 := h.len
  have h2 := h.cst
  have h3 := h.le
  unfold pgsT at h1
  unfold costT at h2
  rw [show (24 : Nat) = 8 + 16 from rfl, rsum_split] at h1 h2
  have h4 : rsum 8 (fun c => K t c * Pc.pgs c) ≤ sumBy q 8 := by
    rw [sumBy_eq]
    refine rsum_le 8 (fun c hc => ?_)
    show K t c * Pc.pgs c ≤ byN c q
    rw [pgs1 hc, Nat.mul_one]
    exact h.by' c hc
  have h5 : rsum 16 (fun i => U t (8 + i) * Pc.un (8 + i)) = rsum 16 (fun i => K t (8 + i) * Pc.pgs (8 + i)) * 512 := by
    rw [← rsum_mul]
    refine rsum_same 16 (fun i hi => ?_)
    show U t (8 + i) * Pc.un (8 + i) = K t (8 + i) * Pc.pgs (8 + i) * 512
    have e : U t (8 + i) = K t (8 + i) := by unfold U; rw [if_neg (by omega)]
    rw [e, un_great (by omega), Nat.mul_assoc]
  unfold pagesN
  have h6 : rsum 16 (fun i => K t (8 + i) * Pc.pgs (8 + i)) ≤ q / 512 := by
    rw [Nat.le_div_iff_mul_le (by omega)]
    omega
  omega
theorem used_full {P : PG} (h : full P = true) : used P = P.S.length := by
  unfold full at h
  have := of_decide_eq_true h
  unfold used; omega
/-- Where a line is empty, all pages of the kind are full. -/
theorem all_full {t : T3} {c : Nat} (h : HI t) (hc : c < 8) (hL : t.H.L c = []) : U t c = K t c * Pc.per c := by
  unfold U K
  rw [if_pos hc, ← rsum_mul]
  refine rsum_same _ (fun s hs => ?_)
  unfold usS tk
  by_cases hf : (t.H.F c).getD s false = false
  · rw [hf]
    have h1 := h.ds c s hc hs hf (by omega)
    cases hD : eget t.H.D ((Pc.loc c s : Nat) : Int) with
    | none => rw [hD] at h1; cases h1
    | some P =>
      obtain ⟨c', s', x, hc', hs', hf', e, hk, -, -, hPI, -⟩ := h.dd _ P hD
      have e' : Pc.loc c s = Pc.loc c' s' := by omega
      obtain ⟨rfl, rfl⟩ := loc_inj0 (show c < 24 by omega) hs (show c' < 24 by omega) hs' e'
      have hfull : full P = true := by
        cases hq : full P with
        | true => rfl
        | false =>
          have := ((h.ll c hc).2 ((Pc.loc c s : Nat) : Int)).2 ⟨P, hD, hk, hq⟩
          rw [hL] at this
          cases this
      have hu := used_full hfull
      have hsl := hPI.sl
      rw [hk] at hsl
      simp only []
      rw [hu, hsl]
      simp
  · have hf' : (t.H.F c).getD s false = true := by simpa using hf
    rw [hf']
    cases hD : eget t.H.D ((Pc.loc c s : Nat) : Int) with
    | none => simp
    | some P =>
      obtain ⟨c', s', x, hc', hs', hg, e, -⟩ := h.dd _ P hD
      have e' : Pc.loc c s = Pc.loc c' s' := by omega
      obtain ⟨rfl, rfl⟩ := loc_inj0 (show c < 24 by omega) hs (show c' < 24 by omega) hs' e'
      rw [hf'] at hg; cases hg
/-- How the sums turn. -/
theorem pgsT_up {t t' : T3} {c d : Nat} (hc : c < 24) (h : ∀ i, i < 24 → i ≠ c → K t' i = K t i) (h1 : K t' c = K t c + d) : pgsT t' = pgsT t + d * Pc.pgs c := by
  unfold pgsT
  refine rsum_up 24 hc (fun i hi hne => ?_) ?_
  · show K t' i * Pc.pgs i = K t i * Pc.pgs i
    rw [h i hi hne]
  · show K t' c * Pc.pgs c = K t c * Pc.pgs c + d * Pc.pgs c
    rw [h1, Nat.add_mul]
theorem costT_up {t t' : T3} {c d : Nat} (hc : c < 24) (h : ∀ i, i < 24 → i ≠ c → U t' i = U t i) (h1 : U t' c = U t c + d) : costT t' = costT t + d * Pc.un c := by
  unfold costT
  refine rsum_up 24 hc (fun i hi hne => ?_) ?_
  · show U t' i * Pc.un i = U t i * Pc.un i
    rw [h i hi hne]
  · show U t' c * Pc.un c = U t c * Pc.un c + d * Pc.un c
    rw [h1, Nat.add_mul]
theorem K_same {t t' : T3} {c : Nat} (h : t'.H.F c = t.H.F c) : K t' c = K t c := by
  unfold K; exact rsum_same _ (fun s _ => by unfold tk; rw [h])
theorem K_take {t t' : T3} {c s : Nat} (hs : s < Pc.slots c) (hl : (t.H.F c).length = Pc.slots c) (hf : (t.H.F c).getD s false = true) (h : t'.H.F = upl t.H.F c ((t.H.F c).set s false)) : K t' c = K t c + 1 ∧ ∀ i, i ≠ c → K t' i = K t i := by
  constructor
  · unfold K
    refine rsum_up _ hs (fun i hi hne => ?_) ?_
    · have e : (t'.H.F c).getD i false = (t.H.F c).getD i false := by rw [h, upl_getD (by omega), if_neg (fun e => hne e.2)]
      unfold tk
      rw [e]
    · have e : (t'.H.F c).getD s false = false := by rw [h, upl_getD (by omega), if_pos ⟨rfl, rfl⟩]
      unfold tk
      rw [e, hf]
      simp
  · intro i hi
    exact K_same (by rw [h, upl_other _ _ hi])
theorem K_give {t t' : T3} {c s : Nat} (hs : s < Pc.slots c) (hl : (t.H.F c).length = Pc.slots c) (hf : (t.H.F c).getD s false = false) (h : t'.H.F = upl t.H.F c ((t.H.F c).set s true)) : K t c = K t' c + 1 ∧ ∀ i, i ≠ c → K t' i = K t i := by
  constructor
  · unfold K
    refine rsum_up _ hs (fun i hi hne => ?_) ?_
    · have e : (t'.H.F c).getD i false = (t.H.F c).getD i false := by rw [h, upl_getD (by omega), if_neg (fun e => hne e.2)]
      unfold tk
      rw [e]
    · have e : (t'.H.F c).getD s false = true := by rw [h, upl_getD (by omega), if_pos ⟨rfl, rfl⟩]
      unfold tk
      rw [e, hf]
      simp
  · intro i hi
    exact K_same (by rw [h, upl_other _ _ hi])
end Few
end Go.Proofs.YtnheibcjcgacpaaGreatDoor
