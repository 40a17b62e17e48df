/- The table's All: its local pages, rising. -/
import Derived.Test.YtcjdejhjbelggaaTabU
set_option linter.unusedVariables false
set_option linter.unusedSimpArgs false
namespace Go.Proofs.Ytcjdejhjbelggaa
open Go.RowKit Go.ChangeMaps Go.Maps Go.Sort Go.Shelf Go.WideElems
namespace Tab
def sortedKeys (E : Prs) : List Int := (keysOf E).mergeSort (fun x y => decide (x ≤ y))
theorem sortedKeys_len (E : Prs) : (sortedKeys E).length = E.length := by unfold sortedKeys; rw [List.length_mergeSort, length_keysOf]
set_option maxRecDepth 100000 in
set_option maxHeartbeats 1000000 in
theorem all_any (w : World) (b m n : Nat) (E G : Prs) (h : At w b m n E G) (hi : Inv E G) (hl : E.length ≤ 1000000) :
    Calls Try.prog 23 #[.pointer (some ⟨b, 0, none⟩)] w fun e w' => ∃ v, e = .returned v ∧ Own w' 3 1 v E.length (ints (sortedKeys E)) ∧ (∀ g, v.ownBlock = some g → w.heap.size ≤ g) ∧ Keeps (fun _ => False) w w' := by
  obtain ⟨c0, c1⟩ := h.cells
  have hk : ∀ p ∈ E, (Lit.int .i64 p.1).wf = true := by
    intro p hp
    have hs : (eget E p.1).isSome = true := by
      rw [eget_isSome]; exact List.find?_isSome.2 ⟨p, hp, by simp⟩
    cases e : eget E p.1 with
    | none => rw [e] at hs; simp at hs
    | some q =>
      have := hi.ab _ _ e
      simp only [Lit.wf, Bool.and_eq_true, decide_eq_true_eq]
      have a1 : IntKind.i64.min = -9223372036854775808 := rfl
      have a2 : IntKind.i64.max = 9223372036854775807 := rfl
      omega
  obtain ⟨nn, D0, hown, hperm, hsize⟩ := owns_of_emap h.2.1 hk (by unfold maxLen; omega)
  have cS := sortedIn m nn D0 anyElem w hown (by rw [hsize]; unfold maxLen; omega) (by rw [hsize]; omega)
  have cK := keysIn
  clear h hown
  refine (callsIn_wide (n := 6)).1 ?_
  have hfK : Fence.wide.fn 32 := trivial
  have hfS : Fence.wide.fn 31 := trivial
  refine callsIn_of_wp Try.func23 rfl trivial ?_ rfl
  simp only [Try.ntmps23, List.size_toArray, List.length_cons, List.length_nil, Nat.reduceAdd, Nat.reduceSub, Array.replicate_succ, Array.replicate_zero, List.push_toArray, List.append_toArray, List.nil_append, List.cons_append]
  gi_wp2_with (first
    | (gi_at_call 32; refine (cK _ _).mono ?_; rintro e w' ⟨rfl, rfl⟩)
    | (gi_at_call 31; refine cS.mono ?_; rintro e w' ⟨v, ss, rfl, hS, hrow, hnil, hb⟩))
  go_ret
  have hss : ss.mergeSort (fun x y => decide (x ≤ y)) = sortedKeys E := mergeSort_of_perm_i (hS.trans hperm)
  have hlen : ss.length = E.length := by rw [(hS.trans hperm).length_eq, length_keysOf]
  rw [hss, hlen] at hrow
  refine ⟨v, rfl, ⟨hrow.1, ?_⟩, ?_, ?_⟩
  · rcases hrow.2 with h2 | ⟨g, cp, cur, h3, h4, h5⟩
    · exact .inl h2
    · exact .inr ⟨g, cp, cur, h3, Nat.zero_le _, h5⟩
  · intro g hg
    rcases hrow.2 with h2 | ⟨g2, cp, cur, h3, h4, h5⟩
    · rw [h2.1] at hg; simp [Value.ownBlock] at hg
    · have hg' : g2 = g := by rw [h3] at hg; simpa [Value.ownBlock] using hg
      omega
  · have k1 : Keeps (fun _ => False) w (w.alloc (.cells #[.map (some m)] 50)) := (Keeps.refl _ _).alloc _
    exact k1.trans (Keeps.of_below (by simpa using hb))
end Tab
end Go.Proofs.Ytcjdejhjbelggaa
