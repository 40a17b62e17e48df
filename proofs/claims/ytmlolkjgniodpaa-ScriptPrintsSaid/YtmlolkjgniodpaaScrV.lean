/- The plain law of the pen's step: when it is bad, and what it writes. -/
import Derived.Test.YtmlolkjgniodpaaScrT
set_option linter.unusedVariables false
set_option linter.unusedSimpArgs false
namespace Go.Proofs.Ytmlolkjgniodpaa
namespace Scr
def ok1 (x : Stp) : Bool := decide (0 ≤ x.kind ∧ x.kind < 16) && decide (0 ≤ x.tenant ∧ x.tenant ≤ 255)
theorem hb_len (x : Stp) : (hb x).length ≤ 9 := by
  unfold hb
  split
  · simp
  · simp [le64_length]
theorem stEq_zero (n m h b : Int) (d : Bs) : stEq 0 0 n m h d b 0 0 0 0 0 [] 0 = ((n == 0) && (m == 0) && (h == 0) && (d == []) && (b == 0)) := by
  unfold stEq
  rw [Bool.eq_iff_iff]
  simp [and_assoc]
theorem bad_law (bad : Bool) (k t n m hd : Int) (d : Bs) (bk : Int) (H NM N T : Bool) (f1 : hasH k = H) (f2 : hasNM k = NM) (f3 : hasN k = N) (f4 : (k == 10) = T) (f5 : (NM && T) = false) (f6 : (N && T) = false) (f7 : (NM && N) = false) :
    ((if NM then ((if NM || N || T then ((if H then ((bad || !ok1 ⟨k, t, n, m, hd, d, bk⟩) || !okH ⟨k, t, n, m, hd, d, bk⟩) else (bad || !ok1 ⟨k, t, n, m, hd, d, bk⟩)) || !in16 n) else (if H then ((bad || !ok1 ⟨k, t, n, m, hd, d, bk⟩) || !okH ⟨k, t, n, m, hd, d, bk⟩) else (bad || !ok1 ⟨k, t, n, m, hd, d, bk⟩))) || !in16 m)
      else if T then ((if NM || N || T then ((if H then ((bad || !ok1 ⟨k, t, n, m, hd, d, bk⟩) || !okH ⟨k, t, n, m, hd, d, bk⟩) else (bad || !ok1 ⟨k, t, n, m, hd, d, bk⟩)) || !in16 n) else (if H then ((bad || !ok1 ⟨k, t, n, m, hd, d, bk⟩) || !okH ⟨k, t, n, m, hd, d, bk⟩) else (bad || !ok1 ⟨k, t, n, m, hd, d, bk⟩))) || !decide (d.length ≤ 255))
      else (if NM || N || T then ((if H then ((bad || !ok1 ⟨k, t, n, m, hd, d, bk⟩) || !okH ⟨k, t, n, m, hd, d, bk⟩) else (bad || !ok1 ⟨k, t, n, m, hd, d, bk⟩)) || !in16 n) else (if H then ((bad || !ok1 ⟨k, t, n, m, hd, d, bk⟩) || !okH ⟨k, t, n, m, hd, d, bk⟩) else (bad || !ok1 ⟨k, t, n, m, hd, d, bk⟩))))
      || !stEq 0 0 (if NM || N || T then 0 else n) (if NM then 0 else m) (if H then 0 else hd) (if T then [] else d) (if H then 0 else bk) 0 0 0 0 0 [] 0) = (bad || !ok ⟨k, t, n, m, hd, d, bk⟩) := by
  rw [stEq_zero]
  have hok : ok ⟨k, t, n, m, hd, d, bk⟩ = (ok1 ⟨k, t, n, m, hd, d, bk⟩ && (if H then okH ⟨k, t, n, m, hd, d, bk⟩ else ((bk == 0) && (hd == 0))) && (if NM || N || T then in16 n else n == 0) && (if NM then in16 m else m == 0) && (if T then decide (d.length ≤ 255) else d == [])) := by
    unfold ok
    simp only [f1, f2, f3, f4]
    have e : decide (bk = 0 ∧ hd = 0) = ((bk == 0) && (hd == 0)) := by rw [Bool.eq_iff_iff]; simp
    rw [e]
    rfl
  rw [hok]
  generalize ok1 ⟨k, t, n, m, hd, d, bk⟩ = q1
  generalize okH ⟨k, t, n, m, hd, d, bk⟩ = q2
  generalize in16 n = q3
  generalize in16 m = q4
  generalize decide (d.length ≤ 255) = q5
  have z1 : ((0 : Int) == 0) = true := rfl
  have z2 : (([] : Bs) == []) = true := rfl
  cases H <;> cases NM <;> cases N <;> cases T
  all_goals first
    | exact absurd f5 (by decide)
    | exact absurd f6 (by decide)
    | exact absurd f7 (by decide)
    | (clear f1 f2 f3 f4 f5 f6 f7
       simp only [Bool.or_true, Bool.true_or, Bool.or_false, Bool.false_or, Bool.false_eq_true, if_true, if_false, z1, z2, Bool.true_and, Bool.and_true]
       generalize (n == 0) = r1
       generalize (m == 0) = r2
       generalize (hd == 0) = r3
       generalize (bk == 0) = r4
       generalize (d == []) = r5
       clear z1 z2 hok
       revert bad q1 q2 q3 q4 q5 r1 r2 r3 r4 r5
       decide +kernel)
theorem out_law (out : Bs) (k t n m hd : Int) (d : Bs) (bk : Int) (H NM N T : Bool) (f1 : hasH k = H) (f2 : hasNM k = NM) (f3 : hasN k = N) (f4 : (k == 10) = T) :
    ((out ++ [b8 k, b8 t]) ++ (if H then hb ⟨k, t, n, m, hd, d, bk⟩ else [])) ++ (if NM then le16 n ++ le16 m else if N then le16 n else if T then le16 n ++ (b8 d.length :: d) else []) = out ++ pb ⟨k, t, n, m, hd, d, bk⟩ := by
  unfold pb
  simp only [f1, f2, f3]
  have e : (k = 10) = (T = true) := by rw [← f4]; simp
  simp only [e, List.append_assoc]
end Scr
end Go.Proofs.Ytmlolkjgniodpaa
