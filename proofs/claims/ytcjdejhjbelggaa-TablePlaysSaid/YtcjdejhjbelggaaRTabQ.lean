/- The plain law of Pieces: byte by byte (the document) and page by page (the program) comes to the same. No program in sight. -/
import Derived.Test.YtcjdejhjbelggaaRTabP
set_option linter.unusedVariables false
set_option linter.unusedSimpArgs false
namespace Go.Proofs.Ytcjdejhjbelggaa
namespace RTab
open Tab
/-- The last one has one byte more. -/
def bump : List Sp → List Sp
  | [] => []
  | [s] => [⟨s.at', s.n + 1, s.wrote⟩]
  | s :: t :: l => s :: bump (t :: l)
theorem bump_append (A : List Sp) (s : Sp) : bump (A ++ [s]) = A ++ [⟨s.at', s.n + 1, s.wrote⟩] := by
  induction A with
  | nil => rfl
  | cons a A ih =>
    cases A with
    | nil => rfl
    | cons b A => rw [List.cons_append, List.cons_append, bump]; rw [← List.cons_append, ih]; rfl
theorem bump_app (A B : List Sp) (h : B ≠ []) : bump (A ++ B) = A ++ bump B := by
  obtain ⟨C, s, rfl⟩ : ∃ C s, B = C ++ [s] := ⟨_, _, (List.dropLast_concat_getLast h).symm⟩
  rw [← List.append_assoc, bump_append, bump_append, List.append_assoc]
/-- One byte more, at a + m. -/
def bstep (F : Int → Int) (a : Int) (m : Nat) (l : List Sp) : Option (List Sp) :=
  if F ((a + m) / 512) < 0 then none else some (bump (if m = 0 ∨ (a + m) % 512 = 0 then l ++ [⟨F ((a + m) / 512) * 512 + (a + m) % 512, 0, false⟩] else l))
def bp (F : Int → Int) (a : Int) : Nat → Option (List Sp)
  | 0 => some []
  | m + 1 => (bp F a m).bind (bstep F a m)
theorem bp_none {F : Int → Int} {a : Int} {m n : Nat} (h : bp F a m = none) (hn : m ≤ n) : bp F a n = none := by
  induction n with
  | zero => have : m = 0 := by omega
            subst this; exact h
  | succ n ih =>
    rcases Nat.lt_or_ge m (n + 1) with h1 | h1
    · show (bp F a n).bind _ = none
      rw [ih (by omega)]; rfl
    · have : m = n + 1 := by omega
      subst this; exact h
theorem bump_ne {l : List Sp} (h : l ≠ []) : bump l ≠ [] := by
  cases l with
  | nil => exact absurd rfl h
  | cons a l => cases l <;> simp [bump]
theorem bp_ne {F : Int → Int} {a : Int} {m : Nat} {l : List Sp} (h : bp F a (m + 1) = some l) : l ≠ [] := by
  induction m generalizing l with
  | zero =>
    simp only [bp, Option.bind_some, bstep] at h
    split at h
    · cases h
    · simp at h; subst h; exact bump_ne (by simp)
  | succ m ih =>
    have h' : (bp F a (m + 1)).bind (bstep F a (m + 1)) = some l := h
    cases e : bp F a (m + 1) with
    | none => rw [e] at h'; cases h'
    | some l' =>
      rw [e] at h'
      simp only [Option.bind_some, bstep] at h'
      split at h'
      · cases h'
      · simp only [Option.some.injEq] at h'
        rw [← h']
        refine bump_ne ?_
        split
        · simp
        · exact ih e
/-- Within one page. -/
theorem bp_page (F : Int → Int) (a : Int) (ha : 0 ≤ a) (s : Nat) (h0 : 0 < s) (hs : (s : Int) ≤ 512 - a % 512) : bp F a s = if F (a / 512) < 0 then none else some [⟨F (a / 512) * 512 + a % 512, s, false⟩] := by
  induction s with
  | zero => omega
  | succ s ih =>
    show (bp F a s).bind (bstep F a s) = _
    by_cases hz : s = 0
    · subst hz
      simp [bp, bstep, bump]
    · rw [ih (by omega) (by omega)]
      have e1 : (a + s) / 512 = a / 512 := by omega
      have e2 : ¬ (s = 0 ∨ (a + s) % 512 = 0) := by omega
      unfold bstep
      rw [e1]
      by_cases hn : F (a / 512) < 0
      · rw [if_pos hn, if_pos hn]; rfl
      · simp only [if_neg hn, Option.bind_some, if_neg e2]
        simp [bump]
/-- Behind a page's end. -/
theorem bp_more (F : Int → Int) (a : Int) (s m : Nat) (hs : (a + s) % 512 = 0) (h0 : 0 < s) : bp F a (s + m) = (bp F a s).bind fun l => (bp F (a + s) m).map (l ++ ·) := by
  induction m with
  | zero => simp [bp]
  | succ m ih =>
    show (bp F a (s + m)).bind (bstep F a (s + m)) = _
    rw [ih]
    cases e : bp F a s with
    | none => rfl
    | some l =>
      simp only [Option.bind_some]
      show _ = ((bp F (a + s) m).bind (bstep F (a + s) m)).map (l ++ ·)
      cases e2 : bp F (a + s) m with
      | none => rfl
      | some l2 =>
        simp only [Option.map_some, Option.bind_some, bstep]
        have e3 : (a + (s + m : Nat) : Int) = a + s + m := by omega
        rw [e3]
        split
        · rfl
        · simp only [Option.map_some, Option.some.injEq]
          by_cases hm : m = 0 ∨ (a + s + m) % 512 = 0
          · have hm' : (s + m = 0) ∨ (a + s + m) % 512 = 0 := by
              rcases hm with rfl | h
              · right; simpa using hs
              · exact .inr h
            rw [if_pos hm, if_pos hm', List.append_assoc, bump_app _ _ (by simp)]
          · have hm' : ¬ ((s + m = 0) ∨ (a + s + m) % 512 = 0) := by
              rintro (h | h)
              · omega
              · exact hm (.inr h)
            rw [if_neg hm, if_neg hm']
            obtain ⟨m', rfl⟩ : ∃ m', m = m' + 1 := ⟨m - 1, by omega⟩
            exact bump_app _ _ (bp_ne e2)
theorem bp_pcs (E : Prs) (f : Nat) : ∀ (a : Int) (n : Nat), 0 ≤ a → n ≤ f → bp (fnd E) a n = pcs E f a n := by
  induction f with
  | zero => intro a n ha hn; obtain rfl : n = 0 := by omega
            rfl
  | succ f ih =>
    intro a n ha hn
    rw [pcs]
    by_cases hz : (n : Int) ≤ 0
    · obtain rfl : n = 0 := by omega
      rw [if_pos (by simp)]; rfl
    · rw [if_neg hz]
      obtain ⟨s, hs⟩ : ∃ s : Nat, (s : Int) = least n (a % 512) := ⟨(least n (a % 512)).toNat, by unfold least; split <;> omega⟩
      have hs1 : 0 < s ∧ s ≤ n ∧ (s : Int) ≤ 512 - a % 512 ∧ (s = n ∨ (s : Int) = 512 - a % 512) := by unfold least at hs; split at hs <;> omega
      rw [← hs]
      have h1 := bp_page (fnd E) a ha s hs1.1 hs1.2.2.1
      by_cases hneg : fnd E (a / 512) < 0
      · rw [if_pos hneg]
        rw [if_pos hneg] at h1
        exact bp_none h1 hs1.2.1
      · rw [if_neg hneg]
        rw [if_neg hneg] at h1
        rcases hs1.2.2.2 with h2 | h2
        · have e : (n : Int) - s = 0 := by omega
          rw [e, ← h2, h1]
          cases f with
          | zero => rfl
          | succ f => simp [pcs]
        · have e : n = s + (n - s) := by omega
          rw [e, bp_more _ _ _ _ (by omega) hs1.1, h1]
          simp only [Option.bind_some]
          rw [ih (a + s) (n - s) (by omega) (by omega)]
          have e2 : ((s + (n - s) : Nat) : Int) - s = ((n - s : Nat) : Int) := by omega
          rw [e2]; rfl
def rpieces (F : Int → Int) (a n : Int) : Option (List Sp) := if within a n then bp F a n.toNat else none
theorem rpieces_eq (E : Prs) (a n : Int) : rpieces (fnd E) a n = pieces E a n := by
  unfold rpieces pieces
  by_cases h : within a n = true
  · rw [if_pos h, if_pos h]
    have : 0 ≤ n ∧ 131072 ≤ a ∧ a + n ≤ 3276800 := by unfold within at h; simpa using h
    rw [bp_pcs E n.toNat a n.toNat (by omega) (Nat.le_refl _), Int.toNat_of_nonneg this.1]
  · rw [if_neg h, if_neg h]
theorem bp_congr {F F' : Int → Int} (h : ∀ k, F k = F' k) (a : Int) (n : Nat) : bp F a n = bp F' a n := by
  have : F = F' := funext h
  rw [this]
end RTab
end Go.Proofs.Ytcjdejhjbelggaa
