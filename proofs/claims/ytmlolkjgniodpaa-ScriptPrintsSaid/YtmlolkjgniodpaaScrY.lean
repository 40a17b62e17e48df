/- The plain law of printing, second part: a step is read as it was written just when it may be written; many steps. No program in sight. -/
import Derived.Test.YtmlolkjgniodpaaScrX
set_option linter.unusedVariables false
set_option linter.unusedSimpArgs false
namespace Go.Proofs.Ytmlolkjgniodpaa
namespace Scr
def u64 (x : Stp) : Prop := 0 ≤ x.handle ∧ x.handle < 18446744073709551616
theorem row_once (k : Int) : ∀ l1 l2, row k = l1 ++ Part.h :: l2 → ¬ Part.h ∈ l2 := by
  intro l1 l2 e
  have hr : row k ∈ [[Part.n, .m], [.n], [.h], [.h, .n], [.h, .n, .m], [.h, .n, .d], []] := by
    unfold row
    repeat' split
    all_goals simp
  rw [e] at hr
  simp only [List.mem_cons, List.not_mem_nil, or_false] at hr
  rcases hr with h | h | h | h | h | h | h
  all_goals
    rcases l1 with _ | ⟨a1, _ | ⟨a2, _ | ⟨a3, l1⟩⟩⟩ <;> simp at h
  all_goals first
    | (obtain rfl := h; simp)
    | skip
theorem ok_parts {x : Stp} (h : ok x = true) : 0 ≤ x.kind ∧ x.kind < 16 ∧ 0 ≤ x.tenant ∧ x.tenant ≤ 255 ∧ (∀ p ∈ row x.kind, fits x p = true) ∧ rb x = pb x ∧
    (row x.kind).foldl (fun y p => setp x p y) { zero with kind := x.kind, tenant := x.tenant } = x := by
  obtain ⟨k, t, n, m, hd, d, bk⟩ := x
  unfold ok at h
  simp only [Bool.and_eq_true, decide_eq_true_eq] at h
  obtain ⟨⟨⟨⟨⟨⟨h1, h2⟩, h3, h4⟩, h5⟩, h6⟩, h7⟩, h8⟩ := h
  refine ⟨h1, h2, h3, h4, ?_⟩
  rcases kind_cases k h1 h2 with rfl | rfl | rfl | rfl | rfl | rfl | rfl | rfl | rfl | rfl | rfl | rfl | rfl | rfl | rfl | rfl
  all_goals
    clear h1 h2 h3 h4
    simp [hasH, hasNM, hasN] at h5 h6 h7 h8
    simp [row, fits, rb, pb, wr, hasH, hasNM, hasN, setp, zero, *]
    try omega
    try (rw [Nat.mod_eq_of_lt (by omega), List.take_length])
/-- What may be written is read as it was, and what stands behind it stays. -/
theorem one_write {x : Stp} (h : ok x = true) (hu : u64 x) (t : Bs) : one (pb x ++ t) = some (x, t) := by
  obtain ⟨h1, h2, h3, h4, hf, hr, hs⟩ := ok_parts h
  rw [← hr]
  unfold rb
  have e1 := b8_toNat (n := x.kind)
  have e2 := b8_toNat (n := x.tenant)
  have ek : (((b8 x.kind).toNat : Int) % 16) = x.kind := by omega
  have et : ((b8 x.tenant).toNat : Int) = x.tenant := by omega
  show one (b8 x.kind :: b8 x.tenant :: ((row x.kind).flatMap (wr x) ++ t)) = _
  have o : one (b8 x.kind :: b8 x.tenant :: ((row x.kind).flatMap (wr x) ++ t)) = parts (row ((b8 x.kind).toNat % 16 : Int)) { zero with kind := (b8 x.kind).toNat % 16, tenant := (b8 x.tenant).toNat } ((row x.kind).flatMap (wr x) ++ t) := by
    unfold one
    rw [if_neg (by simp)]
    rfl
  rw [o, ek, et, parts_write x hu (row x.kind) _ t hf (fun _ => ⟨rfl, rfl⟩) (row_once x.kind), hs]
theorem nm_in16 (l : Bs) : in16 (nm l) = true := by
  unfold in16 nm
  have h1 : (l.getD 0 0).toNat < 256 := UInt8.toNat_lt _
  have h2 : (l.getD 1 0).toNat < 256 := UInt8.toNat_lt _
  simp only []
  generalize (l.getD 0 0).toNat = a at *
  generalize (l.getD 1 0).toNat = b at *
  split <;> simp only [decide_eq_true_eq] <;> omega
/-- What parts have read. -/
def Good (r : List Part) (y x : Stp) : Prop :=
  x.kind = y.kind ∧ x.tenant = y.tenant ∧ (if Part.n ∈ r then in16 x.n = true else x.n = y.n) ∧ (if Part.m ∈ r then in16 x.m = true else x.m = y.m) ∧ (if Part.d ∈ r then x.data.length ≤ 255 else x.data = y.data) ∧
    (if Part.h ∈ r then fits x .h = true else (x.back = y.back ∧ x.handle = y.handle))
theorem parts_good : ∀ (r : List Part) (y x : Stp) (l m : Bs), r.Nodup → (Part.h ∈ r → y.back = 0 ∧ y.handle = 0) → parts r y l = some (x, m) → Good r y x := by
  intro r
  induction r with
  | nil => intro y x l m _ _ h; cases h; simp [Good]
  | cons p r ih =>
    intro y x l m hnd hy h
    have hnd2 := (List.nodup_cons.1 hnd)
    by_cases c : l.length < pn p l
    · rw [parts_no c] at h; cases h
    · rw [parts_ok c] at h
      have hb : (l.getD 0 0).toNat < 256 := UInt8.toNat_lt _
      cases p with
      | n =>
        have := ih (put .n (pn .n l) l y) x _ m hnd2.2 (fun hh => hy (by simp [hh])) h
        obtain ⟨q1, q2, q3, q4, q5, q6⟩ := this
        refine ⟨q1, q2, ?_, ?_, ?_, ?_⟩
        · rw [if_pos (by simp)]
          rw [if_neg hnd2.1] at q3
          rw [q3]; exact nm_in16 l
        · simpa [put] using q4
        · simpa [put] using q5
        · simpa [put] using q6
      | m =>
        have := ih (put .m (pn .m l) l y) x _ m hnd2.2 (fun hh => hy (by simp [hh])) h
        obtain ⟨q1, q2, q3, q4, q5, q6⟩ := this
        refine ⟨q1, q2, ?_, ?_, ?_, ?_⟩
        · simpa [put] using q3
        · rw [if_pos (by simp)]
          rw [if_neg hnd2.1] at q4
          rw [q4]; exact nm_in16 l
        · simpa [put] using q5
        · simpa [put] using q6
      | d =>
        have := ih (put .d (pn .d l) l y) x _ m hnd2.2 (fun hh => hy (by simp [hh])) h
        obtain ⟨q1, q2, q3, q4, q5, q6⟩ := this
        refine ⟨q1, q2, ?_, ?_, ?_, ?_⟩
        · simpa [put] using q3
        · simpa [put] using q4
        · rw [if_pos (by simp)]
          rw [if_neg hnd2.1] at q5
          rw [q5]
          simp only [put, pn_d, List.length_drop, List.length_take]
          omega
        · simpa [put] using q6
      | h =>
        have hy0 := hy (by simp)
        have := ih (put .h (pn .h l) l y) x _ m hnd2.2 (fun hh => absurd hh hnd2.1) h
        obtain ⟨q1, q2, q3, q4, q5, q6⟩ := this
        rw [if_neg hnd2.1] at q6
        refine ⟨?_, ?_, ?_, ?_, ?_, ?_⟩
        · rw [q1]; unfold put; simp only []; split <;> rfl
        · rw [q2]; unfold put; simp only []; split <;> rfl
        · have : (put .h (pn .h l) l y).n = y.n := by unfold put; simp only []; split <;> rfl
          rw [this] at q3; simpa using q3
        · have : (put .h (pn .h l) l y).m = y.m := by unfold put; simp only []; split <;> rfl
          rw [this] at q4; simpa using q4
        · have : (put .h (pn .h l) l y).data = y.data := by unfold put; simp only []; split <;> rfl
          rw [this] at q5; simpa using q5
        · rw [if_pos (by simp)]
          obtain ⟨q7, q8⟩ := q6
          unfold fits
          simp only [decide_eq_true_eq]
          rw [q7, q8, pn_h]
          unfold put
          by_cases hz : (l.getD 0 0).toNat = 255
          · rw [if_pos hz]
            simp only []
            rw [if_neg (by decide)]
            simp only []
            rw [hy0.1]; simp
          · rw [if_neg hz]
            simp only [if_true]
            rw [hy0.2]
            refine ⟨by omega, by omega, .inr rfl⟩
theorem row_nodup (k : Int) : (row k).Nodup := by
  unfold row
  repeat' split
  all_goals decide
/-- What is read may be written. -/
theorem one_ok {l : Bs} {x : Stp} {r : Bs} (h : one l = some (x, r)) : ok x = true := by
  unfold one at h
  split at h
  · cases h
  · have g := parts_good _ _ _ _ _ (row_nodup _) (fun _ => ⟨rfl, rfl⟩) h
    obtain ⟨q1, q2, q3, q4, q5, q6⟩ := g
    simp only [] at q1 q2
    have hb : (l.getD 1 0).toNat < 256 := UInt8.toNat_lt _
    obtain ⟨k, t, n, m, hd, d, bk⟩ := x
    simp only [] at q1 q2 q3 q4 q5 q6
    rw [← q1] at q3 q4 q5 q6
    have hk0 : 0 ≤ k ∧ k < 16 := by omega
    have ht0 : 0 ≤ t ∧ t ≤ 255 := by omega
    unfold ok
    simp only [Bool.and_eq_true, decide_eq_true_eq]
    refine ⟨⟨⟨⟨⟨hk0, ht0⟩, ?_⟩, ?_⟩, ?_⟩, ?_⟩
    all_goals
      clear q1 q2 hb h
      rcases kind_cases k hk0.1 hk0.2 with rfl | rfl | rfl | rfl | rfl | rfl | rfl | rfl | rfl | rfl | rfl | rfl | rfl | rfl | rfl | rfl
      all_goals
        simp [row, fits, zero] at q3 q4 q5 q6
        simp [hasH, hasNM, hasN, *]
/-- Many steps, written one behind the other. -/
theorem rd_write (L : List Stp) : ∀ (f : Nat) (t : Bs), (∀ x ∈ L, ok x = true) → (∀ x ∈ L, u64 x) → L.length ≤ f → rd f (L.flatMap pb ++ t) = L ++ rd (f - L.length) t := by
  induction L with
  | nil => intro f t _ _ _; rfl
  | cons x L ih =>
    intro f t h1 h2 hf
    obtain ⟨f, rfl⟩ : ∃ g, f = g + 1 := ⟨f - 1, by simp at hf; omega⟩
    rw [List.flatMap_cons, List.append_assoc, rd_some (one_write (h1 x (by simp)) (h2 x (by simp)) _), ih f t (fun y hy => h1 y (by simp [hy])) (fun y hy => h2 y (by simp [hy])) (by simpa using hf)]
    simp
/-- What the document's test of a step comes to. -/
def small (x : Stp) : Bool := in16 x.n && in16 x.m
theorem ok_small {x : Stp} (h : ok x = true) : small x = true := by
  obtain ⟨k, t, n, m, hd, d, bk⟩ := x
  have z : in16 0 = true := by decide
  unfold ok at h
  unfold small
  simp only [Bool.and_eq_true] at h
  obtain ⟨⟨⟨⟨⟨h1, h2⟩, h3⟩, h4⟩, h5⟩, h6⟩ := h
  simp only [Bool.and_eq_true]
  constructor
  · split at h4
    · exact h4
    · have : n = 0 := by simpa using h4
      rw [this]; exact z
  · split at h5
    · exact h5
    · have : m = 0 := by simpa using h5
      rw [this]; exact z
theorem ref_test (x : Stp) (hu : u64 x) : (small x = true ∧ 0 ≤ x.kind ∧ x.kind ≤ 15 ∧ one (rb x) = some (x, [])) ↔ ok x = true := by
  constructor
  · rintro ⟨_, _, _, h⟩; exact one_ok h
  · intro h
    obtain ⟨h1, h2, h3, h4, hf, hr, hs⟩ := ok_parts h
    refine ⟨ok_small h, h1, by omega, ?_⟩
    rw [hr]
    have := one_write h hu []
    rwa [List.append_nil] at this
end Scr
end Go.Proofs.Ytmlolkjgniodpaa
