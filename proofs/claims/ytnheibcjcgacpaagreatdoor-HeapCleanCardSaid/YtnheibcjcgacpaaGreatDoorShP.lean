/- Shelves as rows of bits: the plain laws. No program in sight. -/
import Derived.Lib.TrailingZeros
set_option linter.unusedVariables false
set_option linter.unusedSimpArgs false
namespace Go.Proofs.YtnheibcjcgacpaaGreatDoor
namespace Sh
/-- The free numbers of a shelf, rising. -/
def frees (S : List Bool) : List Nat := (List.range S.length).filter (fun k => S.getD k false)
/-- The lowest free number, -1 if there is none. -/
def low (S : List Bool) : Int := match frees S with
  | [] => -1
  | k :: _ => (k : Int)
theorem mem_frees {S : List Bool} {k : Nat} : k ∈ frees S ↔ k < S.length ∧ S.getD k false = true := by
  unfold frees
  rw [List.mem_filter, List.mem_range]
theorem getD_set (S : List Bool) (k j : Nat) (b : Bool) (h : k < S.length) : (S.set k b).getD j false = if j = k then b else S.getD j false := by
  rw [List.getD_eq_getElem?_getD, List.getElem?_set, List.getD_eq_getElem?_getD]
  by_cases e : j = k
  · subst e; simp [h]
  · rw [if_neg (fun q => e q.symm), if_neg e]
theorem frees_set_false (S : List Bool) (k : Nat) (h : k < S.length) : frees (S.set k false) = (frees S).filter (fun j => !(j == k)) := by
  unfold frees
  rw [List.length_set, List.filter_filter]
  refine List.filter_congr fun j _ => ?_
  rw [getD_set S k j false h]
  by_cases e : j = k <;> simp [e]
theorem frees_nodup (S : List Bool) : (frees S).Nodup := List.Pairwise.filter _ List.nodup_range
theorem frees_head {S : List Bool} {k : Nat} (h1 : k < S.length) (h2 : S.getD k false = true) (h3 : ∀ j, j < k → S.getD j false = false) : ∃ r, frees S = k :: r := by
  have h : (frees S).head? = some k := by
    unfold frees
    rw [List.head?_filter, List.find?_range_eq_some]
    exact ⟨h2, List.mem_range.2 h1, fun j hj => by rw [h3 j hj]; rfl⟩
  cases hf : frees S with
  | nil => rw [hf] at h; cases h
  | cons a r => rw [hf] at h; cases h; exact ⟨r, rfl⟩
theorem frees_none {S : List Bool} (h : ∀ k, k < S.length → S.getD k false = false) : frees S = [] := by
  refine List.eq_nil_iff_forall_not_mem.2 fun k hk => ?_
  obtain ⟨h1, h2⟩ := mem_frees.1 hk
  rw [h k h1] at h2; cases h2
theorem frees_take {S : List Bool} {k : Nat} {r : List Nat} (h : frees S = k :: r) : k < S.length ∧ S.getD k false = true ∧ frees (S.set k false) = r := by
  obtain ⟨h1, h2⟩ := mem_frees.1 (show k ∈ frees S by rw [h]; simp)
  refine ⟨h1, h2, ?_⟩
  have hn := frees_nodup S
  rw [h, List.nodup_cons] at hn
  rw [frees_set_false S k h1, h, List.filter_cons]
  simp only [beq_self_eq_true, Bool.not_true, Bool.false_eq_true, if_false]
  exact List.filter_eq_self.2 fun j hj => by
    simp only [Bool.not_eq_true', beq_eq_false_iff_ne]
    rintro rfl; exact hn.1 hj
theorem frees_len_false {S : List Bool} {k : Nat} (h1 : k < S.length) (h2 : S.getD k false = true) : (frees (S.set k false)).length + 1 = (frees S).length := by
  rw [frees_set_false S k h1]
  have hm : k ∈ frees S := mem_frees.2 ⟨h1, h2⟩
  have hn := frees_nodup S
  generalize frees S = l at hm hn
  induction l with
  | nil => simp at hm
  | cons a l ih =>
    rw [List.nodup_cons] at hn
    rw [List.filter_cons]
    by_cases e : a = k
    · subst e
      simp only [beq_self_eq_true, Bool.not_true, Bool.false_eq_true, if_false, List.length_cons]
      rw [List.filter_eq_self.2]
      intro j hj
      simp only [Bool.not_eq_true', beq_eq_false_iff_ne]
      rintro rfl; exact hn.1 hj
    · have : (!(a == k)) = true := by simpa using e
      rw [if_pos this]
      simp only [List.mem_cons] at hm
      rcases hm with hm | hm
      · exact absurd hm.symm e
      · simp only [List.length_cons]; rw [ih hm hn.2]
theorem frees_len_true {S : List Bool} {k : Nat} (h1 : k < S.length) (h2 : S.getD k false = false) : (frees (S.set k true)).length = (frees S).length + 1 := by
  have e : (S.set k true).set k false = S := by
    rw [List.set_set]
    apply List.ext_getElem?
    intro j
    rw [List.getElem?_set]
    split
    · rename_i q; subst q
      rw [List.getD_eq_getElem?_getD] at h2
      cases hj : S[k]? with
      | none => rw [List.getElem?_eq_none_iff] at hj; omega
      | some b => rw [hj] at h2; simp at h2; rw [h2]
    · rfl
  have := frees_len_false (S := S.set k true) (k := k) (by simpa using h1) (by rw [getD_set S k k true h1, if_pos rfl])
  rw [e] at this
  exact this.symm
theorem frees_le (S : List Bool) : (frees S).length ≤ S.length := by
  unfold frees
  exact Nat.le_trans (List.length_filter_le _ _) (by simp)

/-- The words of a shelf: a bit that is set is a free number. -/
structure Bits (ws : List Nat) (S : List Bool) : Prop where
  len : ws.length = (S.length + 63) / 64
  lt : ∀ i, ws.getD i 0 < 18446744073709551616
  bit : ∀ k, k < ws.length * 64 → (ws.getD (k / 64) 0).testBit (k % 64) = S.getD k false
theorem ctz_bits {x : Nat} (h0 : x ≠ 0) (hx : x < 18446744073709551616) : Lib.ctz 64 x < 64 ∧ x.testBit (Lib.ctz 64 x) = true ∧ ∀ j, j < Lib.ctz 64 x → x.testBit j = false := by
  unfold Lib.ctz
  rw [if_neg h0]
  obtain ⟨m, hm, hk⟩ := Lib.ctzFrom_spec 64 x (by omega) (by omega)
  generalize Lib.ctzFrom 64 x = c at *
  refine ⟨hk, ?_, fun j hj => ?_⟩
  · rw [hm, Nat.mul_comm, Nat.testBit_mul_two_pow]
    simp [Nat.testBit_zero]
  · rw [hm, Nat.mul_comm, Nat.testBit_mul_two_pow]
    simp; omega
theorem Bits.lowest {ws : List Nat} {S : List Bool} (h : Bits ws S) {i : Nat} (hi : i < ws.length) (hz : ∀ j, j < i → ws.getD j 0 = 0) (hx : ws.getD i 0 ≠ 0) : ∃ r, frees S = (64 * i + Lib.ctz 64 (ws.getD i 0)) :: r := by
  obtain ⟨c1, c2, c3⟩ := ctz_bits hx (h.lt i)
  generalize Lib.ctz 64 (ws.getD i 0) = c at *
  have d1 : (64 * i + c) / 64 = i := by omega
  have d2 : (64 * i + c) % 64 = c := by omega
  have b := h.bit (64 * i + c) (by omega)
  rw [d1, d2, c2] at b
  have hlt : 64 * i + c < S.length := by
    apply Nat.lt_of_not_le
    intro hle
    rw [List.getD_eq_getElem?_getD, List.getElem?_eq_none (by omega)] at b
    cases b
  refine frees_head hlt b.symm fun j hj => ?_
  have bj := h.bit j (by omega)
  rw [← bj]
  by_cases e : j / 64 = i
  · rw [e]; exact c3 _ (by omega)
  · rw [hz _ (by omega)]; simp
theorem Bits.none {ws : List Nat} {S : List Bool} (h : Bits ws S) (hz : ∀ j, j < ws.length → ws.getD j 0 = 0) : frees S = [] := by
  refine frees_none fun k hk => ?_
  have hl := h.len
  rw [← h.bit k (by omega), hz _ (by omega)]; simp
theorem getD_setN (ws : List Nat) (i j x : Nat) (h : i < ws.length) : (ws.set i x).getD j 0 = if j = i then x else ws.getD j 0 := by
  rw [List.getD_eq_getElem?_getD, List.getElem?_set, List.getD_eq_getElem?_getD]
  by_cases e : j = i
  · subst e; simp [h]
  · rw [if_neg (fun q => e q.symm), if_neg e]
theorem Bits.put {ws : List Nat} {S : List Bool} (h : Bits ws S) {k : Nat} (hk : k < S.length) (x : Nat) (b : Bool) (hx : x < 18446744073709551616) (hb : ∀ j, j < 64 → x.testBit j = if j = k % 64 then b else (ws.getD (k / 64) 0).testBit j) :
    Bits (ws.set (k / 64) x) (S.set k b) := by
  have hl := h.len
  have hi : k / 64 < ws.length := by omega
  refine ⟨by rw [List.length_set, List.length_set]; exact hl, fun i => ?_, fun j hj => ?_⟩
  · rw [getD_setN ws _ i x hi]
    split
    · exact hx
    · exact h.lt i
  · rw [List.length_set] at hj
    rw [getD_setN ws _ _ x hi, getD_set S k j b hk, ← h.bit j hj]
    by_cases e1 : j / 64 = k / 64
    · rw [if_pos e1, hb _ (by omega), e1]
      by_cases e2 : j = k
      · subst e2; simp
      · rw [if_neg (by omega), if_neg e2]
    · rw [if_neg e1, if_neg (by rintro rfl; exact e1 rfl)]
theorem Bits.flip {ws : List Nat} {S : List Bool} (h : Bits ws S) {k : Nat} (hk : k < S.length) : Bits (ws.set (k / 64) (ws.getD (k / 64) 0 ^^^ 2 ^ (k % 64))) (S.set k (!S.getD k false)) := by
  have hl := h.len
  have hb := h.bit k (by omega)
  refine h.put hk _ _ ?_ fun j hj => ?_
  · exact Nat.xor_lt_two_pow (n := 64) (h.lt _) (Nat.pow_lt_pow_right (by decide) (by omega))
  · rw [Nat.testBit_xor, Nat.testBit_two_pow]
    by_cases e : j = k % 64
    · rw [if_pos e, e, hb]; simp
    · rw [if_neg e, decide_eq_false (by omega)]; simp
theorem Bits.set {ws : List Nat} {S : List Bool} (h : Bits ws S) {k : Nat} (hk : k < S.length) : Bits (ws.set (k / 64) (ws.getD (k / 64) 0 ||| 2 ^ (k % 64))) (S.set k true) := by
  refine h.put hk _ _ ?_ fun j hj => ?_
  · exact Nat.or_lt_two_pow (n := 64) (h.lt _) (Nat.pow_lt_pow_right (by decide) (by omega))
  · rw [Nat.testBit_or, Nat.testBit_two_pow]
    by_cases e : j = k % 64
    · rw [if_pos e, e]; simp
    · rw [if_neg e, decide_eq_false (by omega)]; simp
theorem Bits.zero (n : Nat) : Bits (List.replicate ((n + 63) / 64) 0) (List.replicate n false) := by
  refine ⟨by simp, fun i => ?_, fun k _ => ?_⟩
  · rw [List.getD_eq_getElem?_getD, List.getElem?_replicate]; split <;> simp
  · rw [List.getD_eq_getElem?_getD, List.getElem?_replicate, List.getD_eq_getElem?_getD, List.getElem?_replicate]
    split <;> split <;> simp
/-- The first j of n are free. -/
def first (j n : Nat) : List Bool := List.replicate j true ++ List.replicate (n - j) false
theorem first_zero (n : Nat) : first 0 n = List.replicate n false := by simp [first]
theorem first_all (n : Nat) : first n n = List.replicate n true := by simp [first]
theorem first_len {j n : Nat} (h : j ≤ n) : (first j n).length = n := by simp [first]; omega
theorem first_succ {j n : Nat} (h : j < n) : (first j n).set j true = first (j + 1) n := by
  apply List.ext_getElem?
  intro i
  rw [List.getElem?_set]
  simp only [first, List.getElem?_append, List.length_replicate, List.length_append, List.getElem?_replicate]
  repeat' split
  all_goals first | rfl | omega
theorem frees_all (n : Nat) : frees (List.replicate n true) = List.range n := by
  unfold frees
  rw [List.length_replicate]
  refine List.filter_eq_self.2 fun k hk => ?_
  rw [List.mem_range] at hk
  rw [List.getD_eq_getElem?_getD, List.getElem?_replicate, if_pos hk]; rfl
theorem bit_and (x j : Nat) : x / 2 ^ j &&& 1 = if x.testBit j then 1 else 0 := by
  rw [Nat.and_one_is_mod, Nat.testBit, Nat.shiftRight_eq_div_pow, Nat.one_and_eq_mod_two]
  rcases Nat.mod_two_eq_zero_or_one (x / 2 ^ j) with h | h <;> simp [h]
end Sh
end Go.Proofs.YtnheibcjcgacpaaGreatDoor
