/- Scripts as bytes: the document's reading of one step, and the program's tape. No program in sight. -/
import Derived.Test.YtmlolkjgniodpaaBase
set_option linter.unusedVariables false
set_option linter.unusedSimpArgs false
namespace Go.Proofs.Ytmlolkjgniodpaa
abbrev Bs := List UInt8
def bs (l : Bs) : ByteArray := ⟨l.toArray⟩
theorem bs_size (l : Bs) : (bs l).size = l.length := by simp [bs, ByteArray.size]
theorem bs_extract (l : Bs) (i j : Nat) : (bs l).extract i j = bs ((l.take j).drop i) := by
  unfold bs
  apply ByteArray.ext
  simp [ByteArray.data_extract, List.drop_take]
theorem bs_inj {l m : Bs} (h : bs l = bs m) : l = m := by
  unfold bs at h
  simpa using h
theorem bs_self (s : ByteArray) : s = bs s.data.toList := by unfold bs; rfl
theorem bs_append (l m : Bs) : bs l ++ bs m = bs (l ++ m) := by
  unfold bs; apply ByteArray.ext; simp
namespace Scr
structure Stp where
  kind : Int
  tenant : Int
  n : Int
  m : Int
  handle : Int
  data : Bs
  back : Int
deriving DecidableEq
def zero : Stp := ⟨0, 0, 0, 0, 0, [], 0⟩
/-- A number of two bytes. -/
def nm (l : Bs) : Int := let n : Int := (l.getD 0 0).toNat + 256 * (l.getD 1 0).toNat; if 32768 ≤ n then n - 65536 else n
/-- Bytes, the lowest first. -/
def hv : Bs → Int
  | [] => 0
  | c :: l => c.toNat + 256 * hv l
/-! The program's tape. -/
structure Tp where
  rest : Bs
  short : Bool
def tb (n : Nat) (t : Tp) : Bs × Tp := if t.rest.length < n then (List.replicate (max n 1) 0, ⟨[], true⟩) else (t.rest.take n, ⟨t.rest.drop n, t.short⟩)
def tone (t : Tp) : Int × Tp := ((((tb 1 t).1.getD 0 0).toNat : Int), (tb 1 t).2)
def tnum (t : Tp) : Int × Tp := (nm (tb 2 t).1, (tb 2 t).2)
def thand (t : Tp) : (Int × Int) × Tp := if (tone t).1 < 255 then (((tone t).1, 0), (tone t).2) else ((0, hv (tb 8 (tone t).2).1), (tb 8 (tone t).2).2)
def ttext (t : Tp) : Bs × Tp := if (tone t).1 = 0 then ([], (tone t).2) else tb (tone t).1.toNat (tone t).2
def hasH (k : Int) : Bool := decide (6 ≤ k ∧ k ≤ 11)
def hasNM (k : Int) : Bool := decide (k = 1 ∨ k = 2 ∨ k = 5 ∨ k = 9)
def hasN (k : Int) : Bool := decide (k = 4 ∨ k = 7 ∨ k = 11)
/-- What is read behind kind and tenant. -/
def tail1 (k : Int) (t : Tp) : (Int × Int) × Tp := if hasH k then thand t else ((0, 0), t)
def tail2 (k : Int) (t : Tp) : (Int × Int × Bs) × Tp :=
  if hasNM k then (((tnum t).1, (tnum (tnum t).2).1, []), (tnum (tnum t).2).2)
  else if hasN k then (((tnum t).1, 0, []), (tnum t).2)
  else if k = 10 then (((tnum t).1, 0, (ttext (tnum t).2).1), (ttext (tnum t).2).2)
  else ((0, 0, []), t)
def tkind (t : Tp) : Int := (tone t).1 % 16
def tten (t : Tp) : Int := (tone (tone t).2).1
def th (t : Tp) : (Int × Int) × Tp := tail1 (tkind t) (tone (tone t).2).2
def tl (t : Tp) : (Int × Int × Bs) × Tp := tail2 (tkind t) (th t).2
def tstep (t : Tp) : (Stp × Bool) × Tp :=
  if t.rest = [] then ((zero, false), t)
  else if (tl t).2.short then ((zero, false), (tl t).2)
  else ((⟨tkind t, tten t, (tl t).1.1, (tl t).1.2.1, (th t).1.2, (tl t).1.2.2, (th t).1.1⟩, true), (tl t).2)
/-! The document's reading. -/
inductive Part where | n | m | d | h
deriving DecidableEq
def row (k : Int) : List Part :=
  if k = 1 ∨ k = 2 ∨ k = 5 then [.n, .m] else if k = 4 then [.n] else if k = 6 ∨ k = 8 then [.h] else if k = 7 ∨ k = 11 then [.h, .n]
  else if k = 9 then [.h, .n, .m] else if k = 10 then [.h, .n, .d] else []
/-- How many bytes a part has, if they don't end. -/
def pn (p : Part) (l : Bs) : Nat :=
  match p with
    | .n => 2
    | .m => 2
    | .h => if (l.getD 0 0).toNat = 255 then 9 else 1
    | .d => 1 + (l.getD 0 0).toNat
def put (p : Part) (n : Nat) (l : Bs) (x : Stp) : Stp :=
  match p with
  | .n => { x with n := nm l }
  | .m => { x with m := nm l }
  | .d => { x with data := (l.take n).drop 1 }
  | .h => if n = 1 then { x with back := ((l.getD 0 0).toNat : Int) } else { x with handle := hv ((l.take n).drop 1) }
def parts : List Part → Stp → Bs → Option (Stp × Bs)
  | [], x, l => some (x, l)
  | p :: r, x, l => if l.length < pn p l then none else parts r (put p (pn p l) l x) (l.drop (pn p l))
def one (l : Bs) : Option (Stp × Bs) :=
  if l.length < 2 then none else parts (row ((l.getD 0 0).toNat % 16)) { zero with kind := (l.getD 0 0).toNat % 16, tenant := (l.getD 1 0).toNat } (l.drop 2)
/-! The two readings come to the same. -/
theorem tb_ok {n : Nat} {l : Bs} (h : n ≤ l.length) : tb n ⟨l, false⟩ = (l.take n, ⟨l.drop n, false⟩) := by unfold tb; rw [if_neg (by simp; omega)]
theorem tb_no {n : Nat} {l : Bs} (h : l.length < n) (s : Bool) : (tb n ⟨l, s⟩).2.short = true := by unfold tb; rw [if_pos h]
theorem tb_short {n : Nat} {t : Tp} (h : t.short = true) : (tb n t).2.short = true := by unfold tb; split <;> simp [h]
theorem tone_short {t : Tp} (h : t.short = true) : (tone t).2.short = true := tb_short h
theorem tnum_short {t : Tp} (h : t.short = true) : (tnum t).2.short = true := tb_short h
theorem ttext_short {t : Tp} (h : t.short = true) : (ttext t).2.short = true := by
  unfold ttext; split
  · exact tone_short h
  · exact tb_short (tone_short h)
theorem thand_short {t : Tp} (h : t.short = true) : (thand t).2.short = true := by
  unfold thand; split
  · exact tone_short h
  · exact tb_short (tone_short h)
theorem tone_ok {l : Bs} (h : 1 ≤ l.length) : tone ⟨l, false⟩ = (((l.getD 0 0).toNat : Int), ⟨l.drop 1, false⟩) := by
  unfold tone; rw [tb_ok h]
  cases l with
  | nil => simp at h
  | cons a l => rfl
theorem tone_no {l : Bs} (h : l.length < 1) : (tone ⟨l, false⟩).2.short = true := tb_no h _
theorem nm_take (l : Bs) (n : Nat) (h : 2 ≤ n) : nm (l.take n) = nm l := by
  obtain ⟨n, rfl⟩ : ∃ k, n = k + 2 := ⟨n - 2, by omega⟩
  cases l with
  | nil => simp
  | cons a l => cases l with
    | nil => simp
    | cons b l => simp [nm]
theorem tnum_ok {l : Bs} (h : 2 ≤ l.length) : tnum ⟨l, false⟩ = (nm l, ⟨l.drop 2, false⟩) := by unfold tnum; rw [tb_ok h, nm_take _ _ (Nat.le_refl _)]
theorem tnum_no {l : Bs} (h : l.length < 2) : (tnum ⟨l, false⟩).2.short = true := tb_no h _
theorem drop_take_1 (l : Bs) (n : Nat) : (l.take (1 + n)).drop 1 = (l.drop 1).take n := by rw [List.drop_take]; congr 1; omega
theorem pn_pos (p : Part) (l : Bs) : 0 < pn p l := by
  cases p <;> simp only [pn] <;> try omega
  split <;> omega
theorem pn_h (l : Bs) : pn .h l = if (l.getD 0 0).toNat = 255 then 9 else 1 := rfl
theorem pn_d (l : Bs) : pn .d l = 1 + (l.getD 0 0).toNat := rfl
theorem len0 {l : Bs} (h : l.length < 1) : l = [] := List.eq_nil_of_length_eq_zero (by omega)
theorem thand_no {l : Bs} (h : l.length < pn .h l) : (thand ⟨l, false⟩).2.short = true := by
  by_cases h1 : l.length < 1
  · unfold thand
    split
    · exact tone_no h1
    · exact tb_short (tone_no h1)
  · have ht := tone_ok (l := l) (by omega)
    rw [pn_h] at h
    split at h
    · rename_i h2
      have e : thand ⟨l, false⟩ = ((0, hv (tb 8 ⟨l.drop 1, false⟩).1), (tb 8 ⟨l.drop 1, false⟩).2) := by unfold thand; rw [ht, if_neg (by simp only []; omega)]
      rw [e]
      exact tb_no (by simp; omega) _
    · omega
theorem thand_ok {l : Bs} (h : pn .h l ≤ l.length) : thand ⟨l, false⟩ = (((put .h (pn .h l) l zero).back, (put .h (pn .h l) l zero).handle), ⟨l.drop (pn .h l), false⟩) := by
  have h0 := pn_pos .h l
  have ht := tone_ok (l := l) (by omega)
  have hb : (l.getD 0 0).toNat < 256 := UInt8.toNat_lt _
  rw [pn_h] at h ⊢
  by_cases h2 : (l.getD 0 0).toNat = 255
  · rw [if_pos h2] at h ⊢
    have e : thand ⟨l, false⟩ = ((0, hv (tb 8 ⟨l.drop 1, false⟩).1), (tb 8 ⟨l.drop 1, false⟩).2) := by unfold thand; rw [ht, if_neg (by simp only []; omega)]
    rw [e, tb_ok (by simp; omega)]
    simp only [put, List.drop_drop]
    rw [if_neg (by decide), show (9 : Nat) = 1 + 8 from rfl, drop_take_1]
    rfl
  · rw [if_neg h2] at h ⊢
    have e : thand ⟨l, false⟩ = ((((l.getD 0 0).toNat : Int), 0), ⟨l.drop 1, false⟩) := by unfold thand; rw [ht, if_pos (by simp only []; omega)]
    rw [e]
    rfl
theorem ttext_no {l : Bs} (h : l.length < pn .d l) : (ttext ⟨l, false⟩).2.short = true := by
  by_cases h1 : l.length < 1
  · unfold ttext
    split
    · exact tone_no h1
    · exact tb_short (tone_no h1)
  · have ht := tone_ok (l := l) (by omega)
    rw [pn_d] at h
    have e : ttext ⟨l, false⟩ = tb (l.getD 0 0).toNat ⟨l.drop 1, false⟩ := by unfold ttext; rw [ht, if_neg (by simp only []; omega)]; rfl
    rw [e]
    exact tb_no (by simp; simp at h; omega) _
theorem ttext_ok {l : Bs} (h : pn .d l ≤ l.length) : ttext ⟨l, false⟩ = ((l.take (pn .d l)).drop 1, ⟨l.drop (pn .d l), false⟩) := by
  have h0 := pn_pos .d l
  have ht := tone_ok (l := l) (by omega)
  rw [pn_d] at h ⊢
  by_cases h2 : (l.getD 0 0).toNat = 0
  · have e : ttext ⟨l, false⟩ = ([], ⟨l.drop 1, false⟩) := by unfold ttext; rw [ht, if_pos (by simp only []; omega)]
    rw [e, h2]
    simp [List.drop_take]
  · have e : ttext ⟨l, false⟩ = tb (l.getD 0 0).toNat ⟨l.drop 1, false⟩ := by unfold ttext; rw [ht, if_neg (by simp only []; omega)]; rfl
    rw [e, tb_ok (by simp; simp at h; omega), drop_take_1, List.drop_drop]
theorem kind_cases (k : Int) (h1 : 0 ≤ k) (h2 : k < 16) : k = 0 ∨ k = 1 ∨ k = 2 ∨ k = 3 ∨ k = 4 ∨ k = 5 ∨ k = 6 ∨ k = 7 ∨ k = 8 ∨ k = 9 ∨ k = 10 ∨ k = 11 ∨ k = 12 ∨ k = 13 ∨ k = 14 ∨ k = 15 := by omega
theorem parts_no {p : Part} {r : List Part} {x : Stp} {l : Bs} (h : l.length < pn p l) : parts (p :: r) x l = none := by rw [parts, if_pos h]
theorem parts_ok {p : Part} {r : List Part} {x : Stp} {l : Bs} (h : ¬ l.length < pn p l) : parts (p :: r) x l = parts r (put p (pn p l) l x) (l.drop (pn p l)) := by rw [parts, if_neg h]
/-- What is read behind the first two bytes. -/
def Fits (k ten : Int) (l : Bs) (res : Option (Stp × Bs)) : Prop :=
  (∀ x r, res = some (x, r) → (tail2 k (tail1 k ⟨l, false⟩).2).2 = ⟨r, false⟩ ∧ x = ⟨k, ten, (tail2 k (tail1 k ⟨l, false⟩).2).1.1, (tail2 k (tail1 k ⟨l, false⟩).2).1.2.1, (tail1 k ⟨l, false⟩).1.2, (tail2 k (tail1 k ⟨l, false⟩).2).1.2.2, (tail1 k ⟨l, false⟩).1.1⟩) ∧
  (res = none → (tail2 k (tail1 k ⟨l, false⟩).2).2.short = true)
theorem tail2_short {k : Int} {t : Tp} (h : t.short = true) : (tail2 k t).2.short = true := by
  unfold tail2
  split
  · exact tnum_short (tnum_short h)
  · split
    · exact tnum_short h
    · split
      · exact ttext_short (tnum_short h)
      · exact h
theorem fits_rest {k ten : Int} {l m : Bs} {bk hd : Int} (h1 : tail1 k ⟨l, false⟩ = ((bk, hd), ⟨m, false⟩)) (r : List Part) (hr : r = if hasNM k then [.n, .m] else if hasN k then [.n] else if k = 10 then [.n, .d] else []) :
    Fits k ten l (parts r ⟨k, ten, 0, 0, hd, [], bk⟩ m) := by
  unfold Fits
  rw [h1]
  simp only []
  unfold tail2
  by_cases c1 : hasNM k = true
  · rw [if_pos c1] at hr ⊢
    subst hr
    by_cases e1 : m.length < 2
    · have hs : parts [.n, .m] ⟨k, ten, 0, 0, hd, [], bk⟩ m = none := parts_no (p := Part.n) e1
      rw [hs]
      exact ⟨fun x r h => (by cases h), fun _ => tnum_short (tnum_no e1)⟩
    · rw [tnum_ok (l := m) (by omega)]
      simp only []
      by_cases e2 : (m.drop 2).length < 2
      · have hs : parts [.n, .m] ⟨k, ten, 0, 0, hd, [], bk⟩ m = none := (parts_ok (p := Part.n) e1).trans (parts_no (p := Part.m) e2)
        rw [hs]
        exact ⟨fun x r h => (by cases h), fun _ => tnum_no e2⟩
      · rw [tnum_ok (l := m.drop 2) (by omega)]
        have hs : parts [.n, .m] ⟨k, ten, 0, 0, hd, [], bk⟩ m = some (⟨k, ten, nm m, nm (m.drop 2), hd, [], bk⟩, (m.drop 2).drop 2) := (parts_ok (p := Part.n) e1).trans (parts_ok (p := Part.m) e2)
        rw [hs]
        exact ⟨fun x r h => (by cases h; exact ⟨rfl, rfl⟩), fun h => (by cases h)⟩
  · rw [if_neg c1] at hr ⊢
    by_cases c2 : hasN k = true
    · rw [if_pos c2] at hr ⊢
      subst hr
      by_cases e1 : m.length < 2
      · have hs : parts [.n] ⟨k, ten, 0, 0, hd, [], bk⟩ m = none := parts_no (p := Part.n) e1
        rw [hs]
        exact ⟨fun x r h => (by cases h), fun _ => tnum_no e1⟩
      · rw [tnum_ok (l := m) (by omega)]
        have hs : parts [.n] ⟨k, ten, 0, 0, hd, [], bk⟩ m = some (⟨k, ten, nm m, 0, hd, [], bk⟩, m.drop 2) := parts_ok (p := Part.n) e1
        rw [hs]
        exact ⟨fun x r h => (by cases h; exact ⟨rfl, rfl⟩), fun h => (by cases h)⟩
    · rw [if_neg c2] at hr ⊢
      by_cases c3 : k = 10
      · rw [if_pos c3] at hr ⊢
        subst hr
        by_cases e1 : m.length < 2
        · have hs : parts [.n, .d] ⟨k, ten, 0, 0, hd, [], bk⟩ m = none := parts_no (p := Part.n) e1
          rw [hs]
          exact ⟨fun x r h => (by cases h), fun _ => ttext_short (tnum_no e1)⟩
        · rw [tnum_ok (l := m) (by omega)]
          simp only []
          by_cases e2 : (m.drop 2).length < pn .d (m.drop 2)
          · have hs : parts [.n, .d] ⟨k, ten, 0, 0, hd, [], bk⟩ m = none := (parts_ok (p := Part.n) e1).trans (parts_no (p := Part.d) e2)
            rw [hs]
            exact ⟨fun x r h => (by cases h), fun _ => ttext_no e2⟩
          · rw [ttext_ok (l := m.drop 2) (by omega)]
            have hs : parts [.n, .d] ⟨k, ten, 0, 0, hd, [], bk⟩ m = some (⟨k, ten, nm m, 0, hd, ((m.drop 2).take (pn .d (m.drop 2))).drop 1, bk⟩, (m.drop 2).drop (pn .d (m.drop 2))) := (parts_ok (p := Part.n) e1).trans (parts_ok (p := Part.d) e2)
            rw [hs]
            exact ⟨fun x r h => (by cases h; exact ⟨rfl, rfl⟩), fun h => (by cases h)⟩
      · rw [if_neg c3] at hr ⊢
        subst hr
        exact ⟨fun x r h => (by cases h; exact ⟨rfl, rfl⟩), fun h => (by cases h)⟩
theorem put_h_eq (k ten : Int) (n : Nat) (l : Bs) : put .h n l ⟨k, ten, 0, 0, 0, [], 0⟩ = ⟨k, ten, 0, 0, (put .h n l zero).handle, [], (put .h n l zero).back⟩ := by
  unfold put; simp only []; split <;> rfl
theorem fits_row (k ten : Int) (l : Bs) (h1 : 0 ≤ k) (h2 : k < 16) : Fits k ten l (parts (row k) ⟨k, ten, 0, 0, 0, [], 0⟩ l) := by
  by_cases c : hasH k = true
  · obtain ⟨r, hr, hrow⟩ : ∃ r, r = (if hasNM k then [.n, .m] else if hasN k then [.n] else if k = 10 then [.n, .d] else []) ∧ row k = .h :: r := by
      unfold hasH at c
      have : k = 6 ∨ k = 7 ∨ k = 8 ∨ k = 9 ∨ k = 10 ∨ k = 11 := by simp at c; omega
      rcases this with rfl | rfl | rfl | rfl | rfl | rfl <;> exact ⟨_, rfl, rfl⟩
    rw [hrow]
    by_cases e1 : l.length < pn .h l
    · have hs : parts (.h :: r) ⟨k, ten, 0, 0, 0, [], 0⟩ l = none := by rw [parts, if_pos e1]
      rw [hs]
      refine ⟨fun x r h => (by cases h), fun _ => tail2_short ?_⟩
      unfold tail1; rw [if_pos c]; exact thand_no e1
    · have hs : parts (.h :: r) ⟨k, ten, 0, 0, 0, [], 0⟩ l = parts r ⟨k, ten, 0, 0, (put .h (pn .h l) l zero).handle, [], (put .h (pn .h l) l zero).back⟩ (l.drop (pn .h l)) := by
        rw [parts, if_neg e1, put_h_eq]
      rw [hs]
      refine fits_rest ?_ r hr
      unfold tail1; rw [if_pos c]; exact thand_ok (by omega)
  · have hrow : row k = (if hasNM k then [.n, .m] else if hasN k then [.n] else if k = 10 then [.n, .d] else []) := by
      rcases kind_cases k h1 h2 with rfl | rfl | rfl | rfl | rfl | rfl | rfl | rfl | rfl | rfl | rfl | rfl | rfl | rfl | rfl | rfl
      all_goals first | rfl | exact absurd rfl c
    refine fits_rest ?_ (row k) hrow
    unfold tail1; rw [if_neg c]
/-- The two readings come to the same. -/
theorem tstep_one (l : Bs) : (∀ x r, one l = some (x, r) → tstep ⟨l, false⟩ = ((x, true), ⟨r, false⟩)) ∧ (one l = none → (tstep ⟨l, false⟩).1 = (zero, false)) := by
  match l with
  | [] => exact ⟨fun x r h => by simp [one] at h, fun _ => rfl⟩
  | [a] =>
    refine ⟨fun x r h => by simp [one] at h, fun _ => ?_⟩
    have e1 : tone ⟨[a], false⟩ = ((a.toNat : Int), ⟨[], false⟩) := tone_ok (by simp)
    have e2 : (tone ⟨[], false⟩).2.short = true := tone_no (by simp)
    have e3 : (tl ⟨[a], false⟩).2.short = true := by
      unfold tl
      refine tail2_short ?_
      unfold th tail1
      rw [e1]
      split
      · exact thand_short e2
      · exact e2
    unfold tstep
    rw [if_neg (by simp), if_pos e3]
  | a :: b :: l =>
    have e1 : tone ⟨a :: b :: l, false⟩ = ((a.toNat : Int), ⟨b :: l, false⟩) := tone_ok (by simp)
    have e2 : tone ⟨b :: l, false⟩ = ((b.toNat : Int), ⟨l, false⟩) := tone_ok (by simp)
    have k1 : tkind ⟨a :: b :: l, false⟩ = (a.toNat : Int) % 16 := by unfold tkind; rw [e1]
    have k2 : tten ⟨a :: b :: l, false⟩ = (b.toNat : Int) := by unfold tten; rw [e1, e2]
    have k3 : th ⟨a :: b :: l, false⟩ = tail1 ((a.toNat : Int) % 16) ⟨l, false⟩ := by unfold th; rw [k1, e1, e2]
    have k4 : tl ⟨a :: b :: l, false⟩ = tail2 ((a.toNat : Int) % 16) (tail1 ((a.toNat : Int) % 16) ⟨l, false⟩).2 := by unfold tl; rw [k1, k3]
    have f := fits_row ((a.toNat : Int) % 16) (b.toNat : Int) l (by omega) (by omega)
    have o : one (a :: b :: l) = parts (row ((a.toNat : Int) % 16)) ⟨(a.toNat : Int) % 16, (b.toNat : Int), 0, 0, 0, [], 0⟩ l := by
      unfold one; rw [if_neg (by simp)]; rfl
    rw [o]
    refine ⟨fun x r h => ?_, fun h => ?_⟩
    · obtain ⟨f1, f2⟩ := f.1 x r h
      unfold tstep
      rw [if_neg (by simp), k4, f1, if_neg (by simp), k1, k2, k3, f2]
    · have f2 := f.2 h
      unfold tstep
      rw [if_neg (by simp), k4, if_pos f2]
end Scr
end Go.Proofs.Ytmlolkjgniodpaa
