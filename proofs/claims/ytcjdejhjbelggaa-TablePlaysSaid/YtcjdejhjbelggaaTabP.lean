/- The plain law of the table: pairs, there and back. No program in sight. -/
import Derived.Test.YtcjdejhjbelggaaTabB
set_option linter.unusedVariables false
set_option linter.unusedSimpArgs false
namespace Go.Proofs.Ytcjdejhjbelggaa
namespace Tab
structure Inv (E G : Prs) : Prop where
  ab : ∀ v p, eget E v = some p → eget G p = some v ∧ 256 ≤ v ∧ v < 6400 ∧ 0 ≤ p ∧ p ≤ 1048576
  ba : ∀ p v, eget G p = some v → eget E v = some p
  ke : (keysOf E).Nodup
  kg : (keysOf G).Nodup
theorem Inv.nil : Inv [] [] := ⟨fun v p h => by simp [eget_nil] at h, fun v p h => by simp [eget_nil] at h, by simp [keysOf], by simp [keysOf]⟩
theorem fnd_none {E : Prs} {k : Int} (h : eget E k = none) : fnd E k = -1 := by unfold fnd; rw [h]; rfl
theorem fnd_some {E : Prs} {k p : Int} (h : eget E k = some p) : fnd E k = p := by unfold fnd; rw [h]; rfl
theorem Inv.le {E G : Prs} (h : Inv E G) (k : Int) : fnd E k ≤ 1048576 := by
  cases e : eget E k with
  | none => rw [fnd_none e]; omega
  | some p => rw [fnd_some e]; exact (h.ab _ _ e).2.2.2.2
theorem Inv.neg {E G : Prs} (h : Inv E G) {k : Int} (hk : fnd E k < 0) : eget E k = none := by
  cases e : eget E k with
  | none => rfl
  | some p => rw [fnd_some e] at hk; have := h.ab _ _ e; omega
theorem Inv.get {E G : Prs} (h : Inv E G) {k : Int} (hk : ¬ fnd E k < 0) : eget E k = some (fnd E k) := by
  cases e : eget E k with
  | none => rw [fnd_none e] at hk; omega
  | some p => rw [fnd_some e]
theorem Inv.negG {E G : Prs} (h : Inv E G) {k : Int} (hk : fnd G k < 0) : eget G k = none := by
  cases e : eget G k with
  | none => rfl
  | some p => rw [fnd_some e] at hk; have := h.ab _ _ (h.ba _ _ e); omega
theorem Inv.set {E G : Prs} (h : Inv E G) {v p : Int} (hv : eget E v = none) (hp : eget G p = none) (h1 : 256 ≤ v) (h2 : v < 6400) (h3 : 0 ≤ p) (h4 : p ≤ 1048576) : Inv (eset E v p) (eset G p v) := by
  refine ⟨fun a b hab => ?_, fun b a hab => ?_, nodup_eset h.ke _ _, nodup_eset h.kg _ _⟩
  · rw [eget_eset] at hab ⊢
    by_cases e : a = v
    · subst e
      rw [if_pos rfl] at hab; cases hab
      rw [if_pos rfl]; exact ⟨rfl, h1, h2, h3, h4⟩
    · rw [if_neg e] at hab
      have := h.ab _ _ hab
      by_cases e2 : b = p
      · subst e2; rw [hp] at this; simp at this
      · rw [if_neg e2]; exact this
  · rw [eget_eset] at hab ⊢
    by_cases e : b = p
    · subst e
      rw [if_pos rfl] at hab; cases hab
      rw [if_pos rfl]
    · rw [if_neg e] at hab
      have := h.ba _ _ hab
      by_cases e2 : a = v
      · subst e2; rw [hv] at this; simp at this
      · rw [if_neg e2]; exact this
theorem Inv.del {E G : Prs} (h : Inv E G) {v p : Int} (hv : eget E v = some p) : Inv (edel E v) (edel G p) := by
  refine ⟨fun a b hab => ?_, fun b a hab => ?_, nodup_edel h.ke _, nodup_edel h.kg _⟩
  · rw [eget_edel] at hab ⊢
    by_cases e : a = v
    · rw [if_pos e] at hab; simp at hab
    · rw [if_neg e] at hab
      have h1 := h.ab _ _ hab
      by_cases e2 : b = p
      · subst e2
        have h2 := (h.ab _ _ hv).1
        rw [h1.1] at h2; cases h2; exact absurd rfl e
      · rw [if_neg e2]; exact h1
  · rw [eget_edel] at hab ⊢
    by_cases e : b = p
    · rw [if_pos e] at hab; simp at hab
    · rw [if_neg e] at hab
      have h1 := h.ba _ _ hab
      by_cases e2 : a = v
      · subst e2; rw [hv] at h1; cases h1; exact absurd rfl e
      · rw [if_neg e2]; exact h1
theorem Inv.map {E G : Prs} (h : Inv E G) (v p : Int) : Inv (mapS E G v p).1 (mapS E G v p).2 := by
  unfold mapS
  split
  · rename_i hz
    unfold mapE at hz
    split at hz
    · omega
    · split at hz
      · omega
      · exact h.set (h.neg (by omega)) (h.negG (by omega)) (by omega) (by omega) (by omega) (by omega)
  · exact h
theorem Inv.un {E G : Prs} (h : Inv E G) (v : Int) : Inv (unS E G v).1 (unS E G v).2 := by
  unfold unS
  split
  · exact h
  · rename_i hv; exact h.del (h.get hv)
theorem edel_none {E : Prs} {v : Int} (hv : eget E v = none) : edel E v = E := by
  unfold edel
  rw [List.filter_eq_self]
  intro x hx
  cases e : (x.1 == v) with
  | false => rfl
  | true =>
    have : (E.find? (fun p => p.1 == v)).isSome = true := List.find?_isSome.2 ⟨x, hx, e⟩
    rw [← eget_isSome, hv] at this; simp at this
theorem eset_none {E : Prs} {v p : Int} (hv : eget E v = none) : eset E v p = E ++ [(v, p)] := by
  unfold eset
  rw [← eget_isSome, hv]; rfl
theorem eset_some {E : Prs} {v p q : Int} (hv : eget E v = some q) : edel (eset E v p) v = edel E v := by
  unfold eset
  rw [← eget_isSome, hv]
  simp only [Option.isSome_some, if_true]
  unfold edel
  rw [List.filter_map]
  rw [List.map_congr_left (g := id)]
  · rw [List.map_id]
    congr 1
    funext x
    simp only [Function.comp]
    split
    · rename_i e; simp [e]
    · rfl
  · intro x hx
    simp only [List.mem_filter, Function.comp] at hx
    have hx := hx.2
    split
    · rename_i e; rw [if_pos e] at hx; simp at hx
    · rfl
theorem edel_eset {E : Prs} {v p : Int} (hv : eget E v = none) : edel (eset E v p) v = E := by
  rw [eset_none hv]
  unfold edel
  rw [List.filter_append]
  have : (E.filter fun p => !(p.1 == v)) = E := edel_none hv
  rw [this]; simp
theorem Inv.sw {E G : Prs} (h : Inv E G) (v p : Int) : Inv (swS E G v p).1 (swS E G v p).2 := by
  unfold swS
  split
  · rename_i hz
    unfold swE at hz
    split at hz
    · simp at hz
    · split at hz
      · simp at hz
      · split at hz
        · simp at hz
        · rename_i h1 h2 h3
          have hv := h.get h2
          have hb := h.ab _ _ hv
          have hd := h.del hv
          have hp := h.negG (k := p) (by omega)
          have hp' : eget (edel G (fnd E v)) p = none := by rw [eget_edel]; split; { rfl }; exact hp
          have := hd.set (v := v) (p := p) (by rw [eget_edel, if_pos rfl]) hp' hb.2.1 hb.2.2.1 (by omega) (by omega)
          refine ⟨fun a b hab => ?_, fun b a hab => ?_, nodup_eset h.ke _ _, this.kg⟩
          · refine this.ab a b ?_
            rw [eget_eset] at hab ⊢
            rw [eget_edel]
            by_cases e : a = v
            · rw [if_pos e] at hab ⊢; exact hab
            · rw [if_neg e] at hab ⊢; rw [if_neg e]; exact hab
          · have h5 := this.ba b a hab
            rw [eget_eset] at h5 ⊢
            rw [eget_edel] at h5
            by_cases e : a = v
            · rw [if_pos e] at h5 ⊢; exact h5
            · rw [if_neg e] at h5 ⊢; rw [if_neg e] at h5; exact h5
  · exact h
end Tab
end Go.Proofs.Ytcjdejhjbelggaa
