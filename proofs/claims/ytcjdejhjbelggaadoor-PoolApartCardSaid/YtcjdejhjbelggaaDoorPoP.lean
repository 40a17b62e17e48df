/- Pools: each colour's owner as a list; what granting and taking back come to. No program in sight. -/
import Derived.Test.YtcjdejhjbelggaaDoorShP
set_option linter.unusedVariables false
set_option linter.unusedSimpArgs false
namespace Go.Proofs.YtcjdejhjbelggaaDoor
/-- Two rising lists with the same members are one list. -/
theorem rising_ext : ∀ {l m : List Nat}, l.Pairwise (· < ·) → m.Pairwise (· < ·) → (∀ c, c ∈ l ↔ c ∈ m) → l = m
  | [], [], _, _, _ => rfl
  | [], b :: m, _, _, h => by have := (h b).2 (by simp); simp at this
  | a :: l, [], _, _, h => by have := (h a).1 (by simp); simp at this
  | a :: l, b :: m, h1, h2, h => by
    rw [List.pairwise_cons] at h1 h2
    have hab : a = b := by
      have ha := (h a).1 (by simp)
      have hb := (h b).2 (by simp)
      rw [List.mem_cons] at ha hb
      rcases ha with ha | ha
      · exact ha
      · rcases hb with hb | hb
        · exact hb.symm
        · have := h1.1 b hb; have := h2.1 a ha; omega
    subst hab
    congr 1
    refine rising_ext h1.2 h2.2 fun c => ?_
    constructor
    · intro hc
      have := (h c).1 (by simp [hc])
      rw [List.mem_cons] at this
      rcases this with rfl | this
      · have := h1.1 c hc; omega
      · exact this
    · intro hc
      have := (h c).2 (by simp [hc])
      rw [List.mem_cons] at this
      rcases this with rfl | this
      · have := h2.1 c hc; omega
      · exact this
def zs (l : List Nat) : List Int := l.map fun c : Nat => (c : Int)
theorem zs_length (l : List Nat) : (zs l).length = l.length := by simp [zs]
theorem zs_append (l m : List Nat) : zs (l ++ m) = zs l ++ zs m := by simp [zs]
theorem zs_take (l : List Nat) (k : Nat) : zs (l.take k) = (zs l).take k := by simp [zs, List.map_take]
theorem zs_drop (l : List Nat) (k : Nat) : zs (l.drop k) = (zs l).drop k := by simp [zs, List.map_drop]
theorem rising_sort {l m : List Nat} (hm : m.Pairwise (· < ·)) (hl : l.Nodup) (h : ∀ c, c ∈ l ↔ c ∈ m) : (zs l).mergeSort (fun x y => decide (x ≤ y)) = zs m := by
  have hp : l.Perm m := (List.perm_ext_iff_of_nodup hl (hm.imp fun h => by omega)).2 h
  refine List.Perm.eq_of_pairwise (le := fun x y : Int => x ≤ y) (fun a b _ _ h1 h2 => by omega) ?_ ?_ ((List.mergeSort_perm _ _).trans (hp.map _))
  · refine (List.pairwise_mergeSort (le := fun x y : Int => decide (x ≤ y)) ?_ ?_ _).imp ?_
    · intro a b c h1 h2; simp at *; omega
    · intro a b; simp; omega
    · intro a b h; simpa using h
  · unfold zs
    rw [List.pairwise_map]
    exact hm.imp fun h => by omega
namespace Po
/-- The colours of an owner, rising; -1: nobody's. -/
def win (Of : List Int) (o : Int) : List Nat := (List.range Of.length).filter (fun c => Of.getD c (-2) == o)
theorem mem_win {Of : List Int} {o : Int} {c : Nat} : c ∈ win Of o ↔ c < Of.length ∧ Of.getD c (-2) = o := by
  unfold win
  rw [List.mem_filter, List.mem_range]
  simp
theorem win_rising (Of : List Int) (o : Int) : (win Of o).Pairwise (· < ·) := List.Pairwise.filter _ List.pairwise_lt_range
theorem win_nodup (Of : List Int) (o : Int) : (win Of o).Nodup := (win_rising Of o).imp fun h => by omega
theorem win_len (Of : List Int) (o : Int) : (win Of o).length ≤ Of.length := by
  unfold win
  exact Nat.le_trans (List.length_filter_le _ _) (by simp)
/-- These colours are o's. -/
def setAll (l : List Nat) (o : Int) (Of : List Int) : List Int := l.foldl (fun Of c => Of.set c o) Of
theorem setAll_len (l : List Nat) (o : Int) : ∀ Of, (setAll l o Of).length = Of.length := by
  induction l with
  | nil => intro Of; rfl
  | cons c l ih => intro Of; show (setAll l o (Of.set c o)).length = _; rw [ih, List.length_set]
theorem getD_setI (Of : List Int) (c j : Nat) (x d : Int) (h : c < Of.length) : (Of.set c x).getD j d = if j = c then x else Of.getD j d := by
  rw [List.getD_eq_getElem?_getD, List.getElem?_set, List.getD_eq_getElem?_getD]
  by_cases e : j = c
  · subst e; simp [h]
  · rw [if_neg (fun q => e q.symm), if_neg e]
theorem setAll_get (l : List Nat) (o d : Int) : ∀ Of : List Int, (∀ c ∈ l, c < Of.length) → ∀ j, (setAll l o Of).getD j d = if j ∈ l then o else Of.getD j d := by
  induction l with
  | nil => intro Of _ j; simp [setAll]
  | cons c l ih =>
    intro Of h j
    show (setAll l o (Of.set c o)).getD j d = _
    rw [ih (Of.set c o) (fun c' hc' => by rw [List.length_set]; exact h c' (by simp [hc'])) j, getD_setI Of c j o d (h c (by simp))]
    by_cases h1 : j ∈ l
    · simp [h1]
    · by_cases h2 : j = c <;> simp [h1, h2]
theorem mem_win_setAll {Of : List Int} {l : List Nat} {o o' : Int} (h : ∀ c ∈ l, c < Of.length) {c : Nat} : c ∈ win (setAll l o Of) o' ↔ (c ∈ l ∧ o = o') ∨ (c ∉ l ∧ c ∈ win Of o') := by
  rw [mem_win, setAll_len, setAll_get l o (-2) Of h c, mem_win]
  by_cases hc : c ∈ l
  · simp [hc, h c hc]
  · simp [hc]
/-- Which numbers are free. -/
def fr (Of : List Int) : List Bool := Of.map (fun x => x == -1)
theorem fr_len (Of : List Int) : (fr Of).length = Of.length := by simp [fr]
theorem fr_get (Of : List Int) (c : Nat) : (fr Of).getD c false = (Of.getD c (-2) == -1) := by
  unfold fr
  rw [List.getD_eq_getElem?_getD, List.getD_eq_getElem?_getD, List.getElem?_map]
  cases Of[c]? <;> rfl
theorem frees_fr (Of : List Int) : Sh.frees (fr Of) = win Of (-1) := by
  unfold Sh.frees win
  rw [fr_len]
  exact List.filter_congr fun c _ => fr_get Of c
theorem fr_set (Of : List Int) (c : Nat) (o : Int) : fr (Of.set c o) = (fr Of).set c (o == -1) := by
  unfold fr; rw [List.map_set]
theorem fr_setAll (l : List Nat) (o : Int) : ∀ Of, fr (setAll l o Of) = l.foldl (fun S c => S.set c (o == -1)) (fr Of) := by
  induction l with
  | nil => intro Of; rfl
  | cons c l ih => intro Of; show fr (setAll l o (Of.set c o)) = _; rw [ih, fr_set]; rfl
theorem lt_of_win {Of : List Int} {o : Int} {c : Nat} (h : c ∈ win Of o) : c < Of.length := (mem_win.1 h).1
theorem win_ne {Of : List Int} {o o' : Int} {c : Nat} (h : c ∈ win Of o) (h' : c ∈ win Of o') : o = o' := by
  rw [← (mem_win.1 h).2, ← (mem_win.1 h').2]
/-- The colours from the k-th of an owner's on, at most so many. -/
def some' (Of : List Int) (o : Int) (k m : Nat) : List Nat := ((win Of o).drop k).take m
/-- Granting. -/
def more (Of : List Int) (k : Nat) : List Nat := (win Of (-1)).take k
theorem more_lt {Of : List Int} {k : Nat} : ∀ c ∈ more Of k, c < Of.length := fun c hc => lt_of_win (List.mem_of_mem_take hc)
theorem more_mem {Of : List Int} {k : Nat} {c : Nat} (h : c ∈ more Of k) : c ∈ win Of (-1) := List.mem_of_mem_take h
def granted (Of : List Int) (o : Int) (k : Nat) : List Int := setAll (more Of k) o Of
theorem granted_sort (Of : List Int) (o : Int) (ho : o ≠ -1) (k : Nat) : (zs (win Of o ++ more Of k)).mergeSort (fun x y => decide (x ≤ y)) = zs (win (granted Of o k) o) := by
  refine rising_sort (win_rising _ _) ?_ ?_
  · rw [List.nodup_append]
    refine ⟨win_nodup _ _, (win_nodup Of (-1)).sublist (List.take_sublist _ _), ?_⟩
    rintro a ha b hb rfl
    exact ho (win_ne ha (more_mem hb))
  · intro c
    unfold granted
    rw [mem_win_setAll more_lt, List.mem_append]
    constructor
    · rintro (h | h)
      · exact .inr ⟨fun h' => ho (win_ne h (more_mem h')), h⟩
      · exact .inl ⟨h, rfl⟩
    · rintro (⟨h, _⟩ | ⟨_, h⟩)
      · exact .inr h
      · exact .inl h
theorem granted_other (Of : List Int) (o o' : Int) (ho : o' ≠ o) (ho' : o' ≠ -1) (k : Nat) : win (granted Of o k) o' = win Of o' := by
  refine rising_ext (win_rising _ _) (win_rising _ _) fun c => ?_
  unfold granted
  rw [mem_win_setAll more_lt]
  constructor
  · rintro (⟨_, h⟩ | ⟨_, h⟩)
    · exact absurd h.symm ho
    · exact h
  · intro h
    exact .inr ⟨fun h' => ho' (win_ne h (more_mem h')), h⟩
theorem granted_len (Of : List Int) (o : Int) (k : Nat) : (granted Of o k).length = Of.length := setAll_len _ _ _
/-- Taking back all but the k lowest. -/
def gone (Of : List Int) (o : Int) (k : Nat) : List Nat := (win Of o).drop k
theorem gone_lt {Of : List Int} {o : Int} {k : Nat} : ∀ c ∈ gone Of o k, c < Of.length := fun c hc => lt_of_win (List.mem_of_mem_drop hc)
theorem gone_mem {Of : List Int} {o : Int} {k : Nat} {c : Nat} (h : c ∈ gone Of o k) : c ∈ win Of o := List.mem_of_mem_drop h
def shrunk (Of : List Int) (o : Int) (k : Nat) : List Int := setAll (gone Of o k) (-1) Of
theorem shrunk_len (Of : List Int) (o : Int) (k : Nat) : (shrunk Of o k).length = Of.length := setAll_len _ _ _
theorem mem_take_drop {l : List Nat} (h : l.Nodup) (k : Nat) {c : Nat} : c ∈ l.take k ↔ c ∈ l ∧ c ∉ l.drop k := by
  have e := List.take_append_drop k l
  constructor
  · intro hc
    refine ⟨List.mem_of_mem_take hc, fun hd => ?_⟩
    rw [← e, List.nodup_append] at h
    exact h.2.2 c hc c hd rfl
  · rintro ⟨h1, h2⟩
    rw [← e, List.mem_append] at h1
    rcases h1 with h1 | h1
    · exact h1
    · exact absurd h1 h2
theorem shrunk_own (Of : List Int) (o : Int) (ho : o ≠ -1) (k : Nat) : win (shrunk Of o k) o = (win Of o).take k := by
  refine rising_ext (win_rising _ _) ((win_rising Of o).sublist (List.take_sublist _ _)) fun c => ?_
  unfold shrunk
  rw [mem_win_setAll gone_lt, mem_take_drop (win_nodup _ _)]
  constructor
  · rintro (⟨_, h⟩ | ⟨h1, h2⟩)
    · exact absurd h.symm ho
    · exact ⟨h2, h1⟩
  · rintro ⟨h1, h2⟩
    exact .inr ⟨h2, h1⟩
theorem shrunk_other (Of : List Int) (o o' : Int) (ho : o' ≠ o) (ho' : o' ≠ -1) (k : Nat) : win (shrunk Of o k) o' = win Of o' := by
  refine rising_ext (win_rising _ _) (win_rising _ _) fun c => ?_
  unfold shrunk
  rw [mem_win_setAll gone_lt]
  constructor
  · rintro (⟨_, h⟩ | ⟨_, h⟩)
    · exact absurd h.symm ho'
    · exact h
  · intro h
    exact .inr ⟨fun h' => ho (win_ne h (gone_mem h')), h⟩
/-- The shelf amid a granting. -/
def taken (Of : List Int) (j : Nat) : List Bool := (more Of j).foldl (fun S c => S.set c false) (fr Of)
theorem taken_zero (Of : List Int) : taken Of 0 = fr Of := rfl
theorem taken_all (Of : List Int) (o : Int) (ho : o ≠ -1) (k : Nat) : fr (granted Of o k) = taken Of k := by
  unfold granted taken
  rw [fr_setAll]
  have : (o == -1) = false := by simpa using ho
  rw [this]
theorem frees_taken (Of : List Int) : ∀ j, Sh.frees (taken Of j) = (win Of (-1)).drop j ∧ (taken Of j).length = Of.length
  | 0 => ⟨by rw [taken_zero, frees_fr, List.drop_zero], by rw [taken_zero, fr_len]⟩
  | j + 1 => by
    obtain ⟨h1, h2⟩ := frees_taken Of j
    by_cases hj : j < (win Of (-1)).length
    · have e : taken Of (j + 1) = (taken Of j).set ((win Of (-1))[j]) false := by
        unfold taken more
        rw [List.take_succ_eq_append_getElem hj, List.foldl_append]; rfl
      have hd : (win Of (-1)).drop j = (win Of (-1))[j] :: (win Of (-1)).drop (j + 1) := List.drop_eq_getElem_cons hj
      rw [hd] at h1
      obtain ⟨_, _, h5⟩ := Sh.frees_take h1
      rw [e]
      exact ⟨h5, by rw [List.length_set]; exact h2⟩
    · have e : taken Of (j + 1) = taken Of j := by
        unfold taken more
        rw [List.take_of_length_le (by omega), List.take_of_length_le (by omega)]
      rw [e]
      exact ⟨by rw [h1, List.drop_eq_nil_of_le (by omega), List.drop_eq_nil_of_le (by omega)], h2⟩
/-- The shelf amid a taking back. -/
def given (Of : List Int) (o : Int) (k j : Nat) : List Bool := ((gone Of o k).take j).foldl (fun S c => S.set c true) (fr Of)
theorem given_all (Of : List Int) (o : Int) (k : Nat) : fr (shrunk Of o k) = given Of o k (gone Of o k).length := by
  unfold shrunk given
  rw [fr_setAll, List.take_length]; rfl
theorem given_len (Of : List Int) (o : Int) (k j : Nat) : (given Of o k j).length = Of.length := by
  unfold given
  have : ∀ (l : List Nat) (S : List Bool), (l.foldl (fun S c => S.set c true) S).length = S.length := by
    intro l
    induction l with
    | nil => intro S; rfl
    | cons c l ih => intro S; rw [List.foldl_cons, ih, List.length_set]
  rw [this, fr_len]
theorem given_succ (Of : List Int) (o : Int) (k j : Nat) (hj : j < (gone Of o k).length) : given Of o k (j + 1) = (given Of o k j).set ((gone Of o k)[j]) true := by
  unfold given
  rw [List.take_succ_eq_append_getElem hj, List.foldl_append]; rfl
end Po
end Go.Proofs.YtcjdejhjbelggaaDoor
