/- The document's table (garthref15): Swap, which writes in place. -/
import Derived.Test.YtcjdejhjbelggaaRTabB
set_option linter.unusedVariables false
set_option linter.unusedSimpArgs false
namespace Go.Proofs.Ytcjdejhjbelggaa
open Go.RowKit Go.ChangeMaps
theorem Own.setAt {w : World} {e sz n cap g : Nat} {xs : List Value} (h : Own w e sz (.slice (some ⟨g, 0, none⟩) n cap) n xs) (i : Nat) (u : Value) (hi : i < n * sz) : Own (w.setCell ⟨g, i, none⟩ u) e sz (.slice (some ⟨g, 0, none⟩) n cap) n (xs.set i u) := by
  obtain ⟨h1, h2⟩ := h
  refine ⟨by rw [List.length_set]; exact h1, .inr ?_⟩
  rcases h2 with ⟨h2, _⟩ | ⟨g', cap', cur, hv, hg, hh, hc, hcm, hs, ht⟩
  · cases h2
  · cases hv
    refine ⟨g, cap, cur.setIfInBounds i u, rfl, hg, ?_, hc, hcm, by simpa using hs, ?_⟩
    · exact set_of hh i u
    · rw [← ht]
      simp [List.take_set]
namespace RTab
theorem prs_set (L : Tab.Prs) (j : Nat) (x y p : Int) (h : L[j]? = some (x, y)) : (prs L).set (j * 2 + 1) (.int .i64 p) = prs (L.set j (x, p)) := by
  induction L generalizing j with
  | nil => simp at h
  | cons q L ih =>
    cases j with
    | zero => simp at h; subst h; rfl
    | succ j =>
      have h' : L[j]? = some (x, y) := by simpa using h
      have e : prs (q :: L) = .int .i64 q.1 :: .int .i64 q.2 :: prs L := rfl
      have e2 : prs (q :: L.set j (x, p)) = .int .i64 q.1 :: .int .i64 q.2 :: prs (L.set j (x, p)) := rfl
      rw [List.set_cons_succ, e2, ← ih j h', e, show (j + 1) * 2 + 1 = (j * 2 + 1) + 1 + 1 by omega, List.set_cons_succ, List.set_cons_succ]
def swL (L : Tab.Prs) (k p : Int) : Tab.Prs := L.map fun q => if q.1 = k then (q.1, p) else q
def swT (L : Tab.Prs) (k p : Int) (j : Nat) : Tab.Prs := swL (L.take j) k p ++ L.drop j
theorem swT_len (L : Tab.Prs) (k p : Int) (j : Nat) : (swT L k p j).length = L.length := by
  unfold swT swL; rw [List.length_append, List.length_map, List.length_take, List.length_drop]; omega
theorem swT_get (L : Tab.Prs) (k p : Int) (j : Nat) (hj : j < L.length) : (swT L k p j)[j]? = L[j]? := by
  unfold swT swL
  rw [List.getElem?_append_right (by rw [List.length_map, List.length_take]; omega), List.length_map, List.length_take, Nat.min_eq_left (by omega), Nat.sub_self, List.getElem?_drop]
  simp
theorem swT_step {L : Tab.Prs} {k p : Int} {j : Nat} {x y : Int} (h : L[j]? = some (x, y)) : swT L k p (j + 1) = if x = k then (swT L k p j).set j (x, p) else swT L k p j := by
  have hj := (List.getElem?_eq_some_iff.1 h).1
  have hd : L.drop j = (x, y) :: L.drop (j + 1) := by
    rw [List.drop_eq_getElem_cons hj, (List.getElem?_eq_some_iff.1 h).2]
  have hl : (swL (L.take j) k p).length = j := by unfold swL; rw [List.length_map, List.length_take]; omega
  have ht : swL (L.take (j + 1)) k p = swL (L.take j) k p ++ [if x = k then (x, p) else (x, y)] := by
    unfold swL; rw [List.take_add_one, h, List.map_append]; rfl
  unfold swT
  rw [ht, hd]
  by_cases e : x = k
  · rw [if_pos e, if_pos e, List.set_append_right _ _ (by omega), hl, Nat.sub_self, List.set_cons_zero, List.append_assoc]; rfl
  · rw [if_neg e, if_neg e, List.append_assoc]; rfl
def swCode (L : Tab.Prs) (k p : Int) : Int × Int := if p < 0 ∨ 1048576 < p then (0, 12) else if byV L k < 0 then (0, 13) else if 0 ≤ byP L p then (0, 7) else (byV L k, 0)
end RTab
end Go.Proofs.Ytcjdejhjbelggaa
