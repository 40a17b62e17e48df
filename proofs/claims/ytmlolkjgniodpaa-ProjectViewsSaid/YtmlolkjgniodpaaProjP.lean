/- The plain law of views: no program in sight. -/
import Derived.Test.YtmlolkjgniodpaaProjB
set_option linter.unusedVariables false
set_option linter.unusedSimpArgs false
namespace Go.Proofs.Ytmlolkjgniodpaa
namespace Proj
def right (o : XOp) : Bool := decide (1 ≤ o.kind ∧ o.kind ≤ 11 ∧ 0 ≤ o.tenant ∧ o.tenant < 8 ∧ o.data.size ≤ 8192 ∧ (o.data.size = 0 ∨ o.kind = 10))
def adm (o : XOp) : Bool := right o && decide (o.kind ≤ 3)
def bad (p q : See) : Bool := adm p.1 && (p.2.err != q.2.err)
def alikeL : List See → List See → Bool
  | [], [] => true
  | p :: a, q :: b => decide (p.1 = q.1) && !(bad p q) && alikeL a b
  | _, _ => false
/-- Where answers differ first; -1: nowhere. -/
def fd : List See → List See → Int
  | p :: a, q :: b => if p.2 ≠ q.2 then 0 else if fd a b < 0 then -1 else fd a b + 1
  | _, _ => -1
def leaksL (a b : List See) : Int := if alikeL a b then fd a b else -1
theorem alikeL_iff : ∀ (a b : List See), alikeL a b = true ↔ (a.length = b.length ∧ ∀ (i : Nat) p q, a[i]? = some p → b[i]? = some q → p.1 = q.1 ∧ bad p q = false)
  | [], [] => by simp [alikeL]
  | [], q :: b => by simp [alikeL]
  | p :: a, [] => by simp [alikeL]
  | p :: a, q :: b => by
    simp only [alikeL, Bool.and_eq_true, decide_eq_true_eq, Bool.not_eq_true', alikeL_iff a b, List.length_cons, Nat.add_right_cancel_iff]
    constructor
    · rintro ⟨⟨h1, h2⟩, h3, h4⟩
      refine ⟨h3, fun i p' q' hp hq => ?_⟩
      cases i with
      | zero =>
        simp only [List.getElem?_cons_zero, Option.some.injEq] at hp hq
        subst hp hq; exact ⟨h1, h2⟩
      | succ i =>
        simp only [List.getElem?_cons_succ] at hp hq
        exact h4 i p' q' hp hq
    · rintro ⟨h3, h4⟩
      exact ⟨h4 0 p q rfl rfl, h3, fun i p' q' hp hq => h4 (i + 1) p' q' hp hq⟩
theorem fd_at : ∀ (j : Nat) (a b : List See) (p q : See), a[j]? = some p → b[j]? = some q → (∀ (i : Nat) p q, i < j → a[i]? = some p → b[i]? = some q → p.2 = q.2) → p.2 ≠ q.2 → fd a b = j
  | j, [], b, p, q, h, _, _, _ => by simp at h
  | j, p' :: a, [], p, q, _, h, _, _ => by simp at h
  | 0, p' :: a, q' :: b, p, q, h, g, _, hn => by
    simp only [List.getElem?_cons_zero, Option.some.injEq] at h g
    subst h g
    simp only [fd, if_pos hn]; rfl
  | j + 1, p' :: a, q' :: b, p, q, h, g, hi, hn => by
    simp only [List.getElem?_cons_succ] at h g
    have h0 := hi 0 p' q' (by omega) rfl rfl
    have := fd_at j a b p q h g (fun i p q hij hp hq => hi (i + 1) p q (by omega) hp hq) hn
    simp only [fd, this, h0, ne_eq, not_true_eq_false, if_false]
    rw [if_neg (by omega)]; omega
theorem fd_none : ∀ (a b : List See), (∀ (i : Nat) p q, a[i]? = some p → b[i]? = some q → p.2 = q.2) → fd a b = -1
  | [], b, _ => by simp [fd]
  | p :: a, [], _ => by simp [fd]
  | p :: a, q :: b, h => by
    have h0 := h 0 p q rfl rfl
    have := fd_none a b (fun i p q hp hq => h (i + 1) p q hp hq)
    simp [fd, h0, this]
/-- What holds up to j, and at j, holds up to the next one. -/
theorem upto_step {R : See → See → Prop} {a b : List See} {j : Nat} {p q : See} (h : ∀ (i : Nat) p q, i < j → a[i]? = some p → b[i]? = some q → R p q) (hp : a[j]? = some p) (hq : b[j]? = some q) (hr : R p q) : ∀ (i : Nat) p q, i < j + 1 → a[i]? = some p → b[i]? = some q → R p q := by
  intro i p' q' hi hp' hq'
  by_cases e : i = j
  · subst e
    rw [hp] at hp'; rw [hq] at hq'
    cases hp'; cases hq'; exact hr
  · exact h i p' q' (by omega) hp' hq'
theorem view_fst (id : Int) : ∀ (xs : List XOp) (ys : List XAns) (z : Nat), (z = xs.length ∧ xs.length ≤ ys.length) ∨ (z = ys.length ∧ ys.length < xs.length) → (viewL id xs ys).map (·.1) = ofL id (xs.take z)
  | [], ys, z, h => by simp [viewL, ofL]
  | x :: xs, [], z, h => by
    have : z = 0 := by simp at h; omega
    subst this; simp [viewL, ofL]
  | x :: xs, y :: ys, z, h => by
    simp only [List.length_cons] at h
    obtain ⟨z, rfl⟩ : ∃ z', z = z' + 1 := ⟨z - 1, by omega⟩
    have ih := view_fst id xs ys z (by omega)
    simp only [viewL, ofL, List.zip_cons_cons, List.take_succ_cons, List.filter_cons] at ih ⊢
    split
    · rw [List.map_cons, ih]
    · exact ih
end Proj
end Go.Proofs.Ytmlolkjgniodpaa
