/- The plain law of printing: what the document's writer makes of a step is read again just when the step may be written. No program in sight. -/
import Derived.Test.YtmlolkjgniodpaaScrQ
set_option linter.unusedVariables false
set_option linter.unusedSimpArgs false
namespace Go.Proofs.Ytmlolkjgniodpaa
namespace Scr
/-- What the parts of a row are written as. -/
def wr (x : Stp) : Part → Bs
  | .n => le16 x.n
  | .m => le16 x.m
  | .h => hb x
  | .d => b8 x.data.length :: x.data.take (x.data.length % 256)
/-- The document's writing. -/
def rb (x : Stp) : Bs := [b8 x.kind, b8 x.tenant] ++ (row x.kind).flatMap (wr x)
/-- A part that fits. -/
def fits (x : Stp) : Part → Bool
  | .n => in16 x.n
  | .m => in16 x.m
  | .h => decide (0 ≤ x.back ∧ x.back < 255 ∧ (x.back = 0 ∨ x.handle = 0))
  | .d => decide (x.data.length ≤ 255)
theorem getD_le16 (k : Int) (t : Bs) : (le16 k ++ t).length = 2 + t.length := by simp [le16]; omega
theorem hb_pn (x : Stp) (t : Bs) (hf : fits x .h = true) : pn .h (hb x ++ t) = (hb x).length := by
  unfold fits at hf
  simp at hf
  rw [pn_h]
  unfold hb
  by_cases hz : x.handle = 0
  · rw [if_pos hz]
    have e := b8_toNat (n := x.back)
    have : (([b8 x.back] ++ t).getD 0 0).toNat ≠ 255 := by
      show (b8 x.back).toNat ≠ 255
      omega
    rw [if_neg this]; rfl
  · rw [if_neg hz]
    have : ((255 :: le64 8 x.handle ++ t).getD 0 0).toNat = 255 := rfl
    rw [if_pos this]
    simp [le64_length]
theorem put_n (x y : Stp) (t : Bs) (h : in16 x.n = true) : put .n 2 (le16 x.n ++ t) y = { y with n := x.n } := by simp only [put, nm_le16 _ _ h]
theorem put_m (x y : Stp) (t : Bs) (h : in16 x.m = true) : put .m 2 (le16 x.m ++ t) y = { y with m := x.m } := by simp only [put, nm_le16 _ _ h]
theorem put_d (x y : Stp) (t : Bs) (h : x.data.length ≤ 255) : pn .d (b8 x.data.length :: x.data ++ t) = 1 + x.data.length ∧ put .d (1 + x.data.length) (b8 x.data.length :: x.data ++ t) y = { y with data := x.data } := by
  have e := b8_toNat (n := (x.data.length : Int))
  constructor
  · rw [pn_d]
    show 1 + (b8 x.data.length).toNat = _
    omega
  · simp only [put]
    congr 1
    rw [Nat.add_comm]
    show ((b8 x.data.length :: (x.data ++ t)).take (x.data.length + 1)).drop 1 = _
    rw [List.take_succ_cons, List.drop_succ_cons, List.drop_zero, List.take_left]
theorem put_h (x y : Stp) (t : Bs) (hf : fits x .h = true) (hh : 0 ≤ x.handle ∧ x.handle < 18446744073709551616) (hy : y.back = 0 ∧ y.handle = 0) : put .h (hb x).length (hb x ++ t) y = { y with back := x.back, handle := x.handle } := by
  unfold fits at hf
  simp at hf
  obtain ⟨k, tn, n, m, hd, d, bk⟩ := y
  obtain ⟨rfl, rfl⟩ := hy
  unfold hb put
  by_cases hz : x.handle = 0
  · rw [if_pos hz]
    have e := b8_toNat (n := x.back)
    have e2 : ((([b8 x.back] ++ t).getD 0 0).toNat : Int) = x.back := by
      show ((b8 x.back).toNat : Int) = _
      omega
    simp only [List.length_cons, List.length_nil, Nat.zero_add, if_true, e2, hz]
  · rw [if_neg hz]
    have hl : (255 :: le64 8 x.handle).length = 9 := by simp [le64_length]
    have hbk : x.back = 0 := by omega
    have ht : ((255 :: le64 8 x.handle ++ t).take 9).drop 1 = le64 8 x.handle := by
      rw [← hl, List.take_left]; rfl
    simp only [hl]
    have h256 : (256 : Int) ^ 8 = 18446744073709551616 := by decide
    rw [if_neg (by decide), ht, hv_le64 8 x.handle hh.1 (by rw [h256]; exact hh.2), hbk]
/-- Bytes of parts that fit are read as they were written. -/
def setp (x : Stp) : Part → Stp → Stp
  | .n, y => { y with n := x.n }
  | .m, y => { y with m := x.m }
  | .d, y => { y with data := x.data }
  | .h, y => { y with back := x.back, handle := x.handle }
theorem parts_write (x : Stp) (hh : 0 ≤ x.handle ∧ x.handle < 18446744073709551616) : ∀ (r : List Part) (y : Stp) (t : Bs), (∀ p ∈ r, fits x p = true) → (Part.h ∈ r → y.back = 0 ∧ y.handle = 0) → (∀ l1 l2, r = l1 ++ .h :: l2 → ¬ Part.h ∈ l2) →
    parts r y (r.flatMap (wr x) ++ t) = some (r.foldl (fun y p => setp x p y) y, t) := by
  intro r
  induction r with
  | nil => intro y t _ _ _; rfl
  | cons p r ih =>
    intro y t hf hy hu
    have hfp := hf p (by simp)
    have hfr : ∀ q ∈ r, fits x q = true := fun q hq => hf q (by simp [hq])
    have hur : ∀ l1 l2, r = l1 ++ .h :: l2 → ¬ Part.h ∈ l2 := fun l1 l2 e => hu (p :: l1) l2 (by rw [e]; rfl)
    rw [List.flatMap_cons, List.append_assoc, List.foldl_cons]
    cases p with
    | n =>
      have h2 : ¬ (le16 x.n ++ (r.flatMap (wr x) ++ t)).length < pn .n (le16 x.n ++ (r.flatMap (wr x) ++ t)) := by rw [getD_le16]; show ¬ _ < 2; omega
      show parts (.n :: r) y (le16 x.n ++ (r.flatMap (wr x) ++ t)) = _
      rw [parts_ok h2]
      show parts r (put .n 2 _ y) ((le16 x.n ++ (r.flatMap (wr x) ++ t)).drop 2) = _
      rw [put_n x y _ hfp]
      exact ih _ t hfr (fun h => hy (by simp [h])) hur
    | m =>
      have h2 : ¬ (le16 x.m ++ (r.flatMap (wr x) ++ t)).length < pn .m (le16 x.m ++ (r.flatMap (wr x) ++ t)) := by rw [getD_le16]; show ¬ _ < 2; omega
      show parts (.m :: r) y (le16 x.m ++ (r.flatMap (wr x) ++ t)) = _
      rw [parts_ok h2]
      show parts r (put .m 2 _ y) ((le16 x.m ++ (r.flatMap (wr x) ++ t)).drop 2) = _
      rw [put_m x y _ hfp]
      exact ih _ t hfr (fun h => hy (by simp [h])) hur
    | d =>
      have hl : x.data.length ≤ 255 := by unfold fits at hfp; simpa using hfp
      have hw : wr x .d = b8 x.data.length :: x.data := by
        show b8 x.data.length :: x.data.take (x.data.length % 256) = _
        rw [Nat.mod_eq_of_lt (by omega), List.take_length]
      rw [hw]
      obtain ⟨e1, e2⟩ := put_d x y (r.flatMap (wr x) ++ t) hl
      have h2 : ¬ (b8 x.data.length :: x.data ++ (r.flatMap (wr x) ++ t)).length < pn .d (b8 x.data.length :: x.data ++ (r.flatMap (wr x) ++ t)) := by rw [e1]; simp; omega
      rw [parts_ok h2, e1, e2]
      have hdr : (b8 x.data.length :: x.data ++ (r.flatMap (wr x) ++ t)).drop (1 + x.data.length) = r.flatMap (wr x) ++ t := by
        rw [show 1 + x.data.length = (b8 x.data.length :: x.data).length by simp; omega, List.drop_left]
      rw [hdr]
      exact ih _ t hfr (fun h => hy (by simp [h])) hur
    | h =>
      have e1 := hb_pn x (r.flatMap (wr x) ++ t) hfp
      show parts (.h :: r) y (hb x ++ (r.flatMap (wr x) ++ t)) = _
      have h2 : ¬ (hb x ++ (r.flatMap (wr x) ++ t)).length < pn .h (hb x ++ (r.flatMap (wr x) ++ t)) := by rw [e1]; simp
      rw [parts_ok h2, e1, put_h x y _ hfp hh (hy (by simp)), List.drop_left]
      exact ih _ t hfr (fun h => absurd h (hu [] r rfl)) hur
end Scr
end Go.Proofs.Ytmlolkjgniodpaa
