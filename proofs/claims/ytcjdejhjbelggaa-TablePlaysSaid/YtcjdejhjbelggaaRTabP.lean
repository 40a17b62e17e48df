/- The plain law: the document's list of pairs and the table's maps, step by step. No program in sight. -/
import Derived.Test.YtcjdejhjbelggaaRTabE
import Derived.Test.YtcjdejhjbelggaaTabV
set_option linter.unusedVariables false
set_option linter.unusedSimpArgs false
namespace Go.Proofs.Ytcjdejhjbelggaa
namespace RTab
open Tab Go.Maps Go.Sort Go.Shelf
theorem eget_mem {E : Prs} (hn : (keysOf E).Nodup) {v p : Int} : (v, p) ∈ E ↔ eget E v = some p := by
  induction E with
  | nil => simp [eget_nil]
  | cons q E ih =>
    rw [eget_cons]
    have hn' : q.1 ∉ keysOf E ∧ (keysOf E).Nodup := by simpa [keysOf] using hn
    by_cases e : q.1 = v
    · rw [if_pos e]
      constructor
      · intro h
        rcases List.mem_cons.1 h with h | h
        · rw [← h]
        · exact absurd (List.mem_map.2 ⟨_, h, rfl⟩) (by rw [← e] ; exact hn'.1)
      · intro h
        cases h
        rw [← e]; exact List.mem_cons_self
    · rw [if_neg e, ← ih hn'.2]
      constructor
      · intro h
        rcases List.mem_cons.1 h with h | h
        · rw [← h] at e; exact absurd rfl e
        · exact h
      · exact fun h => List.mem_cons_of_mem _ h
/-- The document's list stands for this map. -/
structure Rl (L E : Prs) : Prop where
  so : (keysOf L).Pairwise (· < ·)
  eq : ∀ k, eget L k = eget E k
theorem Rl.nil : Rl [] [] := ⟨by simp [keysOf], fun _ => rfl⟩
theorem Rl.nodup {L E : Prs} (h : Rl L E) : (keysOf L).Nodup := h.so.imp (fun hab e => by omega)
theorem Rl.byV {L E : Prs} (h : Rl L E) (k : Int) : byV L k = fnd E k := by
  unfold fnd; rw [← h.eq]; rfl
theorem Rl.byP {L E G : Prs} (h : Rl L E) (hi : Inv E G) (p : Int) : byP L p = fnd G p := by
  unfold RTab.byP fnd
  congr 1
  cases hg : eget G p with
  | some v =>
    have h1 := hi.ba _ _ hg
    rw [← h.eq, ← eget_mem h.nodup] at h1
    cases hf : L.find? (fun q => q.2 == p) with
    | none =>
      have := List.find?_eq_none.1 hf _ h1
      simp at this
    | some q =>
      have h2 := List.mem_of_find?_eq_some hf
      have h3 : q.2 = p := by simpa using List.find?_some hf
      have h4 : eget L q.1 = some p := (eget_mem h.nodup).1 (by rw [← h3]; exact h2)
      rw [h.eq] at h4
      have h5 := (hi.ab _ _ h4).1
      rw [hg] at h5; cases h5; rfl
  | none =>
    have : L.find? (fun q => q.2 == p) = none := by
      rw [List.find?_eq_none]
      intro q hq hp
      have hp : q.2 = p := by simpa using hp
      have h4 : eget L q.1 = some p := (eget_mem h.nodup).1 (by rw [← hp]; exact hq)
      rw [h.eq] at h4
      have h5 := (hi.ab _ _ h4).1
      rw [hg] at h5; cases h5
    rw [this]; rfl
theorem Rl.perm {L E : Prs} (h : Rl L E) (hk : (keysOf E).Nodup) : (keysOf L).Perm (keysOf E) := by
  rw [List.perm_ext_iff_of_nodup h.nodup hk]
  intro k
  rw [mem_keysOf, mem_keysOf, h.eq]
theorem Rl.len {L E : Prs} (h : Rl L E) (hk : (keysOf E).Nodup) : L.length = E.length := by
  have := (h.perm hk).length_eq
  rwa [length_keysOf, length_keysOf] at this
theorem Rl.keys {L E : Prs} (h : Rl L E) (hk : (keysOf E).Nodup) : L.map (·.1) = sortedKeys E := by
  unfold sortedKeys
  rw [← mergeSort_of_perm_i (h.perm hk)]
  symm
  refine List.mergeSort_of_pairwise ?_
  exact h.so.imp (fun hab => by simp; omega)
theorem eget_mid (A C : Prs) (a b k : Int) (h : eget (A ++ C) a = none) : eget (A ++ (a, b) :: C) k = if k = a then some b else eget (A ++ C) k := by
  induction A with
  | nil => rw [List.nil_append, eget_cons]; by_cases e : a = k <;> simp [e, eq_comm]
  | cons q A ih =>
    rw [List.cons_append, eget_cons] at h
    by_cases e : q.1 = a
    · rw [if_pos e] at h; cases h
    · rw [if_neg e] at h
      rw [List.cons_append, eget_cons, List.cons_append, eget_cons, ih h]
      by_cases e2 : q.1 = k
      · rw [if_pos e2, if_pos e2, if_neg (by rintro rfl; exact e e2)]
      · rw [if_neg e2, if_neg e2]
theorem take_takeWhile (L : Prs) (f : Int × Int → Bool) : L.take (L.takeWhile f).length = L.takeWhile f ∧ L.drop (L.takeWhile f).length = L.dropWhile f := by
  induction L with
  | nil => simp
  | cons q L ih =>
    rw [List.takeWhile_cons, List.dropWhile_cons]
    cases f q <;> simp [ih]
theorem Rl.set {L E : Prs} (h : Rl L E) {v p : Int} (hv : eget E v = none) : Rl (ins L v p) (eset E v p) := by
  have hL : eget L v = none := by rw [h.eq]; exact hv
  have e0 : L.take (cutI L v) ++ L.drop (cutI L v) = L := List.take_append_drop _ _
  refine ⟨?_, fun k => ?_⟩
  · obtain ⟨t1, t2⟩ := take_takeWhile L (fun q => decide (q.1 < v))
    unfold ins insL
    have h1 : ∀ x ∈ L.take (cutI L v), x.1 < v := by
      unfold cutI; rw [t1]
      intro x hx
      have := List.all_eq_true.1 (List.all_takeWhile (p := fun q : Int × Int => decide (q.1 < v)) (l := L)) x hx
      simpa using this
    have h2 : ∀ x ∈ L.drop (cutI L v), v < x.1 := by
      intro x hx
      have hx0 := hx
      unfold cutI at hx; rw [t2] at hx
      have hne : x.1 ≠ v := by
        intro e
        have hm : x ∈ L := List.mem_of_mem_drop hx0
        have : v ∈ keysOf L := List.mem_map.2 ⟨x, hm, e⟩
        rw [mem_keysOf, hL] at this; simp at this
      have hs : (keysOf (L.dropWhile fun q => decide (q.1 < v))).Pairwise (· < ·) := by
        rw [← t2]
        exact h.so.sublist ((List.drop_sublist _ _).map _)
      cases hd : L.dropWhile (fun q => decide (q.1 < v)) with
      | nil => rw [hd] at hx; simp at hx
      | cons y ys =>
        rw [hd] at hx hs
        have hy : ¬ y.1 < v := by
          have := List.head?_dropWhile_not (fun q : Int × Int => decide (q.1 < v)) L
          rw [hd] at this
          simpa using this
        rcases List.mem_cons.1 hx with rfl | hx
        · omega
        · have hs' : ∀ a ∈ keysOf ys, y.1 < a := (List.pairwise_cons.1 hs).1
          have := hs' x.1 (List.mem_map.2 ⟨x, hx, rfl⟩)
          omega
    have hso := h.so
    rw [← e0] at hso
    unfold keysOf at hso ⊢
    rw [List.map_append] at hso ⊢
    rw [List.map_cons]
    rw [List.pairwise_append] at hso ⊢
    refine ⟨hso.1, List.pairwise_cons.2 ⟨fun a ha => ?_, hso.2.1⟩, fun a ha b hb => ?_⟩
    · obtain ⟨x, hx, rfl⟩ := List.mem_map.1 ha; exact h2 x hx
    · obtain ⟨x, hx, rfl⟩ := List.mem_map.1 ha
      rcases List.mem_cons.1 hb with rfl | hb
      · exact h1 x hx
      · exact hso.2.2 _ ha _ hb
  · unfold ins insL
    rw [eget_mid _ _ _ _ _ (by rw [e0]; exact hL), e0, eget_eset, h.eq]
theorem Rl.del {L E : Prs} (h : Rl L E) (v : Int) : Rl (RTab.del L v) (edel E v) := by
  refine ⟨h.so.sublist ((List.filter_sublist).map _), fun k => ?_⟩
  show eget (edel L v) k = _
  rw [eget_edel, eget_edel, h.eq]
theorem swL_eq (L : Prs) (v p : Int) (h : (eget L v).isSome = true) : swL L v p = eset L v p := by
  unfold swL eset
  rw [← eget_isSome, h]
  simp only [if_true]
  refine List.map_congr_left (fun q hq => ?_)
  by_cases e : q.1 = v <;> simp [e]
theorem Rl.sw {L E : Prs} (h : Rl L E) {v p : Int} (hv : (eget E v).isSome = true) : Rl (swL L v p) (eset E v p) := by
  have hv' : (eget L v).isSome = true := by rw [h.eq]; exact hv
  rw [swL_eq L v p hv']
  refine ⟨?_, fun k => by rw [eget_eset, eget_eset, h.eq]⟩
  rw [keysOf_eset, if_pos hv']
  exact h.so
theorem mapCode_eq {L E G : Prs} (h : Rl L E) (hi : Inv E G) (v p : Int) : mapCode L v p = mapE E G v p := by
  unfold mapCode mapE
  rw [h.byV, h.byP hi]
  by_cases c : v < 256 ∨ 6399 < v ∨ p < 0 ∨ 1048576 < p
  · have c' : v < 256 ∨ 6400 ≤ v ∨ p < 0 ∨ 1048576 < p := by omega
    rw [if_pos c, if_pos c']
  · have c' : ¬ (v < 256 ∨ 6400 ≤ v ∨ p < 0 ∨ 1048576 < p) := by omega
    rw [if_neg c, if_neg c']
theorem swCode_eq {L E G : Prs} (h : Rl L E) (hi : Inv E G) (v p : Int) : swCode L v p = swE E G v p := by
  unfold swCode swE
  rw [h.byV, h.byP hi]
theorem Rl.map {L E G : Prs} (h : Rl L E) (hi : Inv E G) (v p : Int) : Rl (if mapCode L v p = 0 then ins L v p else L) (mapS E G v p).1 := by
  rw [mapCode_eq h hi]
  unfold mapS
  by_cases c : mapE E G v p = 0
  · rw [if_pos c, if_pos c]
    refine h.set ?_
    unfold mapE at c
    split at c
    · omega
    · split at c
      · omega
      · exact hi.neg (by omega)
  · rw [if_neg c, if_neg c]; exact h
theorem Rl.un {L E G : Prs} (h : Rl L E) (v : Int) : Rl (if RTab.byV L v < 0 then L else RTab.del L v) (unS E G v).1 := by
  rw [h.byV]
  unfold unS
  split
  · exact h
  · exact h.del v
theorem Rl.swp {L E G : Prs} (h : Rl L E) (hi : Inv E G) (v p : Int) : Rl (if (swCode L v p).2 = 0 then swL L v p else L) (swS E G v p).1 := by
  rw [swCode_eq h hi]
  unfold swS
  by_cases c : (swE E G v p).2 = 0
  · rw [if_pos c, if_pos c]
    refine h.sw ?_
    unfold swE at c
    split at c
    · simp at c
    · split at c
      · simp at c
      · rename_i h2; rw [hi.get h2]; rfl
  · rw [if_neg c, if_neg c]; exact h
end RTab
end Go.Proofs.Ytcjdejhjbelggaa
