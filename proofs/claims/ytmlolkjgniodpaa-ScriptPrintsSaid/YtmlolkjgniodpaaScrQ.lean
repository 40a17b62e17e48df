/- Scripts as bytes: many steps; what is cut off; what is printed. No program in sight. -/
import Derived.Test.YtmlolkjgniodpaaScrP
set_option linter.unusedVariables false
set_option linter.unusedSimpArgs false
namespace Go.Proofs.Ytmlolkjgniodpaa
namespace Scr
def rd : Nat → Bs → List Stp
  | 0, _ => []
  | f + 1, l => match one l with
    | none => []
    | some (x, r) => x :: rd f r
def read (l : Bs) : List Stp := rd 4000 (l.take 16384)
theorem rd_none {l : Bs} (h : one l = none) (f : Nat) : rd f l = [] := by cases f <;> simp [rd, h]
theorem rd_some {l r : Bs} {x : Stp} (h : one l = some (x, r)) (f : Nat) : rd (f + 1) l = x :: rd f r := by simp [rd, h]
theorem rd_len (f : Nat) (l : Bs) : (rd f l).length ≤ f := by
  induction f generalizing l with
  | zero => simp [rd]
  | succ f ih =>
    cases h : one l with
    | none => rw [rd_none h]; simp
    | some p => rw [rd_some (x := p.1) (r := p.2) h]; simp; exact ih _
theorem rd_take (f g : Nat) (l : Bs) (h : f ≤ g) : rd f l = (rd g l).take f := by
  induction f generalizing g l with
  | zero => simp [rd]
  | succ f ih =>
    obtain ⟨g, rfl⟩ : ∃ g', g = g' + 1 := ⟨g - 1, by omega⟩
    cases e : one l with
    | none => rw [rd_none e, rd_none e]; simp
    | some p => rw [rd_some (x := p.1) (r := p.2) e, rd_some (x := p.1) (r := p.2) e, List.take_succ_cons, ← ih g _ (by omega)]
theorem getD_append {l t : Bs} {i : Nat} (h : i < l.length) : (l ++ t).getD i 0 = l.getD i 0 := by
  simp [List.getD_eq_getElem?_getD, List.getElem?_append_left h]
theorem pn_append (p : Part) (l t : Bs) (h : 0 < l.length) : pn p (l ++ t) = pn p l := by
  cases p <;> simp only [pn, getD_append h]
theorem nm_append (l t : Bs) (h : 2 ≤ l.length) : nm (l ++ t) = nm l := by
  unfold nm; rw [getD_append (by omega), getD_append (by omega)]
theorem put_append (p : Part) (l t : Bs) (x : Stp) (h : pn p l ≤ l.length) : put p (pn p l) (l ++ t) x = put p (pn p l) l x := by
  have h0 := pn_pos p l
  cases p
  · simp only [put]; rw [nm_append _ _ h]
  · simp only [put]; rw [nm_append _ _ h]
  · simp only [put]; rw [List.take_append_of_le_length h]
  · simp only [put]; rw [getD_append (by omega), List.take_append_of_le_length h]
theorem parts_append (r : List Part) : ∀ (x : Stp) (l t : Bs) (y : Stp) (m : Bs), parts r x l = some (y, m) → parts r x (l ++ t) = some (y, m ++ t) := by
  induction r with
  | nil => intro x l t y m h; cases h; rfl
  | cons p r ih =>
    intro x l t y m h
    have h0 := pn_pos p l
    by_cases c : l.length < pn p l
    · rw [parts_no c] at h; cases h
    · rw [parts_ok c] at h
      have e := pn_append p l t (by omega)
      rw [parts_ok (by rw [e, List.length_append]; omega), e, put_append p l t x (by omega), List.drop_append_of_le_length (by omega)]
      exact ih _ _ _ _ _ h
theorem one_append {l : Bs} {x : Stp} {r : Bs} (t : Bs) (h : one l = some (x, r)) : one (l ++ t) = some (x, r ++ t) := by
  by_cases c : l.length < 2
  · unfold one at h; rw [if_pos c] at h; cases h
  · unfold one at h ⊢
    rw [if_neg c] at h
    rw [if_neg (by rw [List.length_append]; omega), getD_append (by omega), getD_append (by omega), List.drop_append_of_le_length (by omega)]
    exact parts_append _ _ _ _ _ _ h
/-- What is read of a beginning is the beginning of what is read. -/
theorem rd_append (f : Nat) (l t : Bs) : rd f l <+: rd f (l ++ t) := by
  induction f generalizing l with
  | zero => simp [rd]
  | succ f ih =>
    cases e : one l with
    | none => rw [rd_none e]; exact List.nil_prefix
    | some p =>
      have e2 := one_append t (x := p.1) (r := p.2) e
      rw [rd_some (x := p.1) (r := p.2) e, rd_some e2]
      exact (List.cons_prefix_cons).2 ⟨rfl, ih _⟩
theorem read_cut (l : Bs) (c : Nat) : read (l.take c) <+: read l := by
  unfold read
  have e : l.take 16384 = (l.take c).take 16384 ++ (l.take 16384).drop c := by
    rw [List.take_take, Nat.min_comm, ← List.take_take, List.take_append_drop]
  rw [e]
  exact rd_append _ _ _
/-! What is printed. -/
def in16 (n : Int) : Bool := decide (-32768 ≤ n ∧ n ≤ 32767)
/-- May a step be written? -/
def ok (x : Stp) : Bool :=
  decide (0 ≤ x.kind ∧ x.kind < 16) && decide (0 ≤ x.tenant ∧ x.tenant ≤ 255)
  && (if hasH x.kind then decide (0 ≤ x.back ∧ x.back < 255 ∧ (x.back = 0 ∨ x.handle = 0)) else decide (x.back = 0 ∧ x.handle = 0))
  && (if hasNM x.kind || hasN x.kind || x.kind == 10 then in16 x.n else x.n == 0)
  && (if hasNM x.kind then in16 x.m else x.m == 0)
  && (if x.kind == 10 then decide (x.data.length ≤ 255) else x.data == [])
def b8 (n : Int) : UInt8 := UInt8.ofNat (n % 256).toNat
def le16 (n : Int) : Bs := [b8 n, b8 (n / 256)]
def le64 : Nat → Int → Bs
  | 0, _ => []
  | k + 1, h => b8 h :: le64 k (h / 256)
def hb (x : Stp) : Bs := if x.handle = 0 then [b8 x.back] else 255 :: le64 8 x.handle
def pb (x : Stp) : Bs :=
  [b8 x.kind, b8 x.tenant] ++ (if hasH x.kind then hb x else [])
  ++ (if hasNM x.kind then le16 x.n ++ le16 x.m else if hasN x.kind then le16 x.n else if x.kind = 10 then le16 x.n ++ (b8 x.data.length :: x.data) else [])
theorem b8_toNat {n : Int} : ((b8 n).toNat : Int) = n % 256 := by
  unfold b8
  rw [UInt8.toNat_ofNat']
  have : (n % 256).toNat < 256 := by omega
  rw [Nat.mod_eq_of_lt this]
  omega
theorem nm_le16 (n : Int) (t : Bs) (h : in16 n = true) : nm (le16 n ++ t) = n := by
  unfold in16 at h
  simp at h
  have e1 := b8_toNat (n := n)
  have e2 := b8_toNat (n := n / 256)
  unfold nm le16
  simp only [List.cons_append, List.getD_cons_zero, List.getD_cons_succ]
  split <;> omega
theorem le64_length (k : Nat) (h : Int) : (le64 k h).length = k := by
  induction k generalizing h with
  | zero => rfl
  | succ k ih => simp [le64, ih]
theorem hv_le64 (k : Nat) (h : Int) (h0 : 0 ≤ h) (h1 : h < 256 ^ k) : hv (le64 k h) = h := by
  induction k generalizing h with
  | zero => simp at h1; simp [le64, hv]; omega
  | succ k ih =>
    rw [le64, hv, b8_toNat, ih (h / 256) (by omega) (by rw [Int.pow_succ] at h1; omega)]
    omega
theorem hv_bound (l : Bs) : 0 ≤ hv l ∧ hv l < 256 ^ l.length := by
  induction l with
  | nil => simp [hv]
  | cons c l ih =>
    have hc : c.toNat < 256 := UInt8.toNat_lt _
    rw [hv, List.length_cons, Int.pow_succ]
    omega
end Scr
end Go.Proofs.Ytmlolkjgniodpaa
