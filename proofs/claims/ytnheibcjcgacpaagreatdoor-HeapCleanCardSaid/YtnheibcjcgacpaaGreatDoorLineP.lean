/- The plain law of a line: a map of neighbours, a first and a last, stand for a list; Push and Remove on the one side are append and filter on the other. No program in sight. -/
import Derived.Test.YtnheibcjcgacpaaGreatDoorBase
set_option linter.unusedVariables false
set_option linter.unusedSimpArgs false
namespace Go.Proofs.YtnheibcjcgacpaaGreatDoor

/-! ### pairs by keys -/
section
variable {α : Type}
theorem eget_nil (k : Int) : eget ([] : List (Int × α)) k = none := rfl
theorem eget_cons (p : Int × α) (E : List (Int × α)) (k : Int) : eget (p :: E) k = if p.1 = k then some p.2 else eget E k := by
  unfold eget
  by_cases h : p.1 = k <;> simp [List.find?_cons, h]
theorem eget_map_set (E : List (Int × α)) (a : Int) (v : α) (k : Int) :
    eget (E.map (fun p => if p.1 == a then (a, v) else p)) k = if k = a then (eget E k).map (fun _ => v) else eget E k := by
  induction E with
  | nil => simp [eget_nil]
  | cons p E ih =>
    rw [List.map_cons, eget_cons, eget_cons, ih]
    by_cases hp : p.1 = a
    · subst hp
      by_cases hk : k = p.1
      · subst hk; simp
      · have hk' : ¬ p.1 = k := fun e => hk e.symm
        simp [hk, hk']
    · by_cases hk : k = a
      · subst hk; simp [hp]
      · simp [hp, hk]
theorem eget_append (E : List (Int × α)) (a : Int) (v : α) (k : Int) : eget (E ++ [(a, v)]) k = (eget E k).or (if a = k then some v else none) := by
  induction E with
  | nil => simp [eget_nil, eget_cons]
  | cons p E ih =>
    rw [List.cons_append, eget_cons, eget_cons, ih]
    by_cases hp : p.1 = k <;> simp [hp]
theorem eget_isSome (E : List (Int × α)) (k : Int) : (eget E k).isSome = (E.find? (fun p => p.1 == k)).isSome := by
  unfold eget; simp
theorem eget_eset (E : List (Int × α)) (a : Int) (v : α) (k : Int) : eget (eset E a v) k = if k = a then some v else eget E k := by
  unfold eset
  split
  · rename_i h
    rw [eget_map_set]
    by_cases hk : k = a
    · subst hk
      rw [← eget_isSome] at h
      simp only [if_true]
      cases he : eget E k with
      | none => rw [he] at h; cases h
      | some x => rfl
    · simp [hk]
  · rename_i h
    rw [eget_append]
    rw [← eget_isSome] at h
    by_cases hk : k = a
    · subst hk
      cases he : eget E k with
      | none => simp
      | some x => rw [he] at h; simp at h
    · have hk' : ¬ a = k := fun e => hk e.symm
      simp [hk, hk']
theorem eget_edel (E : List (Int × α)) (a : Int) (k : Int) : eget (edel E a) k = if k = a then none else eget E k := by
  unfold edel
  induction E with
  | nil => simp [eget_nil]
  | cons p E ih =>
    rw [List.filter_cons]
    by_cases hp : p.1 = a
    · simp only [hp, beq_self_eq_true, Bool.not_true, Bool.false_eq_true, if_false, ih, eget_cons]
      by_cases hk : k = a
      · simp [hk]
      · have hk' : ¬ a = k := fun e => hk e.symm
        simp [hk, hk']
    · have hb : (!(p.1 == a)) = true := by simp [hp]
      simp only [hb, if_true, eget_cons, ih]
      by_cases hk : k = a
      · subst hk; simp [hp]
      · simp [hk]
def keysOf (E : List (Int × α)) : List Int := E.map (·.1)
theorem mem_keysOf (E : List (Int × α)) (k : Int) : k ∈ keysOf E ↔ (eget E k).isSome = true := by
  unfold keysOf
  induction E with
  | nil => simp [eget_nil]
  | cons p E ih =>
    rw [List.map_cons, List.mem_cons, ih, eget_cons]
    by_cases hp : p.1 = k
    · simp [hp]
    · have hp' : ¬ k = p.1 := fun e => hp e.symm
      simp [hp, hp']
theorem keysOf_eset (E : List (Int × α)) (a : Int) (v : α) : keysOf (eset E a v) = if (eget E a).isSome then keysOf E else keysOf E ++ [a] := by
  unfold eset keysOf
  rw [← eget_isSome]
  split
  · rw [List.map_map]
    refine List.map_congr_left fun p _ => ?_
    by_cases h : p.1 = a <;> simp [h]
  · simp
theorem nodup_eset {E : List (Int × α)} (h : (keysOf E).Nodup) (a : Int) (v : α) : (keysOf (eset E a v)).Nodup := by
  rw [keysOf_eset]
  split
  · exact h
  · rename_i hn
    refine List.nodup_append.2 ⟨h, by simp, ?_⟩
    intro x hx y hy
    simp only [List.mem_singleton] at hy
    subst hy
    rintro rfl
    exact hn ((mem_keysOf E x).1 hx)
theorem nodup_edel {E : List (Int × α)} (h : (keysOf E).Nodup) (a : Int) : (keysOf (edel E a)).Nodup := by
  unfold edel keysOf at *
  exact h.sublist ((List.filter_sublist).map _)
theorem length_keysOf (E : List (Int × α)) : (keysOf E).length = E.length := by simp [keysOf]
/-- Two lists of keys without repeats that have the same members are as long. -/
theorem length_of_keys {E : List (Int × α)} {L : List Int} (h : (keysOf E).Nodup) (hL : L.Nodup) (hm : ∀ k, (eget E k).isSome = true ↔ k ∈ L) : E.length = L.length := by
  rw [← length_keysOf]
  exact ((List.perm_ext_iff_of_nodup h hL).2 (fun k => (mem_keysOf E k).trans (hm k))).length_eq
end

namespace Line
abbrev Nbs := List (Int × (Int × Int))
def tF (f a c : Int) : Int := if a = -1 then c else f
def tL (l a c : Int) : Int := if c = -1 then a else l
def tE1 (E : Nbs) (a c : Int) : Nbs := if a = -1 then E else eset E a (((eget E a).getD (0, 0)).1, c)
def tE2 (E : Nbs) (a c : Int) : Nbs := if c = -1 then E else eset E c (a, ((eget E c).getD (0, 0)).2)

/-- The chain: each number's neighbours. -/
def Chain (E : Nbs) : Int → List Int → Int → Prop
  | _, [], _ => True
  | p, x :: r, nx => eget E x = some (p, r.headD nx) ∧ Chain E x r nx
def last : Int → List Int → Int
  | p, [] => p
  | _, x :: L => last x L
theorem last_nil (p : Int) : last p [] = p := rfl
theorem last_cons (p x : Int) (L : List Int) : last p (x :: L) = last x L := rfl
theorem last_append (p : Int) (L M : List Int) : last p (L ++ M) = last (last p L) M := by
  induction L generalizing p with
  | nil => rfl
  | cons x L ih => rw [List.cons_append, last_cons, last_cons, ih]
theorem last_mem (p : Int) (L : List Int) (h : L ≠ []) : last p L ∈ L := by
  induction L generalizing p with
  | nil => exact absurd rfl h
  | cons x L ih =>
    rw [last_cons]
    cases L with
    | nil => simp [last_nil]
    | cons y L => exact List.mem_cons_of_mem _ (ih x (by simp))
theorem chain_append (E : Nbs) (p : Int) (L M : List Int) (nx : Int) : Chain E p (L ++ M) nx ↔ Chain E p L (M.headD nx) ∧ Chain E (last p L) M nx := by
  induction L generalizing p with
  | nil => simp [Chain, last_nil]
  | cons x L ih =>
    rw [List.cons_append, last_cons]
    simp only [Chain]
    rw [ih]
    have : (L ++ M).headD nx = L.headD (M.headD nx) := by cases L <;> simp
    rw [this, and_assoc]
theorem chain_congr {E E' : Nbs} (p : Int) (L : List Int) (nx : Int) (h : Chain E p L nx) (he : ∀ x ∈ L, eget E' x = eget E x) : Chain E' p L nx := by
  induction L generalizing p with
  | nil => trivial
  | cons x L ih =>
    exact ⟨(he x (by simp)).trans h.1, ih x h.2 (fun y hy => he y (by simp [hy]))⟩
theorem chain_next {E E' : Nbs} (p : Int) (L : List Int) (nx nx' : Int) (hn : L.Nodup) (h : Chain E p L nx) (he : ∀ x ∈ L, x ≠ last p L → eget E' x = eget E x)
    (hl : L ≠ [] → eget E' (last p L) = some (((eget E (last p L)).getD (0, 0)).1, nx')) : Chain E' p L nx' := by
  induction L generalizing p with
  | nil => trivial
  | cons x L ih =>
    rw [last_cons] at he hl
    cases L with
    | nil =>
      refine ⟨?_, trivial⟩
      have := hl (by simp)
      rw [last_nil] at this
      rw [this, h.1]
      rfl
    | cons y L =>
      have hxl : x ≠ last x (y :: L) := fun e => (List.nodup_cons.1 hn).1 (by rw [e]; exact last_mem x (y :: L) (by simp))
      refine ⟨?_, ih x (List.nodup_cons.1 hn).2 h.2 (fun z hz hne => he z (by simp [hz]) hne) (fun _ => hl (by simp))⟩
      rw [he x (by simp) hxl, h.1]
      rfl
theorem chain_prev {E E' : Nbs} (p p' : Int) (L : List Int) (nx : Int) (h : Chain E p L nx) (he : ∀ x ∈ L, x ≠ L.headD (-1) → eget E' x = eget E x) (hn : L.Nodup)
    (hl : L ≠ [] → eget E' (L.headD (-1)) = some (p', ((eget E (L.headD (-1))).getD (0, 0)).2)) : Chain E' p' L nx := by
  cases L with
  | nil => trivial
  | cons x L =>
    simp only [List.headD_cons] at he hl
    refine ⟨?_, chain_congr x L nx h.2 (fun y hy => he y (by simp [hy]) (fun e => (List.nodup_cons.1 hn).1 (by rw [← e]; exact hy)))⟩
    rw [hl (by simp), h.1]
    rfl

/-- A map of neighbours, a first and a last stand for a list. -/
structure Lk (E : Nbs) (L : List Int) (f l : Int) : Prop where
  nodup : L.Nodup
  nonneg : ∀ x ∈ L, 0 ≤ x
  keys : (keysOf E).Nodup
  dom : ∀ k, (eget E k).isSome = true ↔ k ∈ L
  chain : Chain E (-1) L (-1)
  first : f = L.headD (-1)
  lst : l = last (-1) L
theorem Lk.len {E L f l} (h : Lk E L f l) : E.length = L.length := length_of_keys h.keys h.nodup h.dom
theorem Lk.empty : Lk [] [] (-1) (-1) := ⟨by simp, by simp, by simp [keysOf], by simp [eget_nil], trivial, rfl, rfl⟩

theorem isSome_ite {α : Type} (c : Prop) [Decidable c] (a b : Option α) : (if c then a else b).isSome = if c then a.isSome else b.isSome := by split <;> rfl

theorem nodup_tE1 {E : Nbs} (h : (keysOf E).Nodup) (a c : Int) : (keysOf (tE1 E a c)).Nodup := by
  unfold tE1; split
  · exact h
  · exact nodup_eset h _ _
theorem nodup_tE2 {E : Nbs} (h : (keysOf E).Nodup) (a c : Int) : (keysOf (tE2 E a c)).Nodup := by
  unfold tE2; split
  · exact h
  · exact nodup_eset h _ _
theorem eget_tE1 (E : Nbs) (a c k : Int) : eget (tE1 E a c) k = if a ≠ -1 ∧ k = a then some (((eget E a).getD (0, 0)).1, c) else eget E k := by
  unfold tE1
  by_cases h : a = -1
  · simp [h]
  · simp [h, eget_eset]
theorem eget_tE2 (E : Nbs) (a c k : Int) : eget (tE2 E a c) k = if c ≠ -1 ∧ k = c then some (a, ((eget E c).getD (0, 0)).2) else eget E k := by
  unfold tE2
  by_cases h : c = -1
  · simp [h]
  · simp [h, eget_eset]

theorem push_law {E : Nbs} {L : List Int} {f l k : Int} (h : Lk E L f l) (hk : 0 ≤ k) (hn : k ∉ L) :
    Lk (tE2 (tE1 (tE2 (tE1 (eset E k (-1, -1)) l k) l k) k (-1)) k (-1)) (L ++ [k]) (tF (tF f l k) k (-1)) (tL (tL l l k) k (-1)) := by
  have hk1 : ¬ k = -1 := by omega
  have hkl : L ≠ [] → ¬ k = l := by
    intro hne e
    rw [h.lst] at e
    exact hn (by rw [e]; exact last_mem _ _ hne)
  have hl0 : L ≠ [] → l ≠ -1 := by
    intro hne e
    have := h.nonneg _ (last_mem (-1) L hne)
    rw [← h.lst] at this; omega
  have hl1 : L = [] → l = -1 := by rintro rfl; rw [h.lst]; rfl
  have key : ∀ x, eget (tE2 (tE1 (tE2 (tE1 (eset E k (-1, -1)) l k) l k) k (-1)) k (-1)) x = if x = k then some (l, -1) else if x = l ∧ L ≠ [] then some (((eget E l).getD (0, 0)).1, k) else eget E x := by
    intro x
    rw [eget_tE2, if_neg (by simp), eget_tE1, eget_tE2, eget_tE2, eget_tE1, eget_tE1]
    simp only [eget_eset]
    by_cases hx : x = k
    · subst hx
      simp [hk1]
    · by_cases hL : L = []
      · have := hl1 hL; subst this; simp [hx, hL]
      · have h3 : ¬ l = k := fun e => hkl hL e.symm
        by_cases hxl : x = l
        · subst hxl; simp [hx, hL, hl0 hL]
        · simp [hx, hxl]
  refine ⟨?_, ?_, ?_, ?_, ?_, ?_, ?_⟩
  · refine List.nodup_append.2 ⟨h.nodup, by simp, ?_⟩
    intro x hx y hy
    simp only [List.mem_singleton] at hy
    subst hy; rintro rfl; exact hn hx
  · intro x hx
    rcases List.mem_append.1 hx with hx | hx
    · exact h.nonneg x hx
    · simp only [List.mem_singleton] at hx; omega
  · exact nodup_tE2 (nodup_tE1 (nodup_tE2 (nodup_tE1 (nodup_eset h.keys _ _) _ _) _ _) _ _) _ _
  · intro x
    rw [key]
    by_cases hx : x = k
    · simp [hx]
    · by_cases hxl : x = l ∧ L ≠ []
      · rw [if_neg hx, if_pos hxl]
        simp only [Option.isSome_some, true_iff]
        refine List.mem_append.2 (.inl ?_)
        rw [hxl.1, h.lst]; exact last_mem _ _ hxl.2
      · rw [if_neg hx, if_neg hxl, h.dom]
        simp [hx]
  · rw [chain_append]
    refine ⟨chain_next (-1) L (-1) _ h.nodup h.chain ?_ ?_, ?_⟩
    · intro x hx hne
      rw [← h.lst] at hne
      rw [key, if_neg (by rintro rfl; exact hn hx), if_neg (by simp [hne])]
    · intro hL
      rw [← h.lst, key, if_neg (fun e => hkl hL e.symm), if_pos ⟨rfl, hL⟩]
      rfl
    · refine ⟨?_, trivial⟩
      rw [key, if_pos rfl, h.lst]
      rfl
  · unfold tF
    rw [if_neg hk1]
    cases L with
    | nil => simp [hl1]
    | cons x r => rw [if_neg (hl0 (by simp)), h.first]; rfl
  · unfold tL
    rw [if_pos rfl, last_append]
    rfl

theorem remove_law {E : Nbs} {L : List Int} {f l k : Int} (h : Lk E L f l) (p : Int × Int) (hp : eget E k = some p) :
    Lk (tE2 (tE1 (edel E k) p.1 p.2) p.1 p.2) (L.filter (fun x => !(x == k))) (tF f p.1 p.2) (tL l p.1 p.2) := by
  have hkL : k ∈ L := (h.dom k).1 (by rw [hp]; rfl)
  obtain ⟨L1, L2, rfl⟩ := List.append_of_mem hkL
  have hnd := h.nodup
  have hch := h.chain
  rw [chain_append] at hch
  obtain ⟨hc1, hc2, hc3⟩ := hch
  rw [hp] at hc2
  have hp1 : p.1 = last (-1) L1 := by rw [Option.some.inj hc2]
  have hp2 : p.2 = L2.headD (-1) := by rw [Option.some.inj hc2]
  rw [List.nodup_append] at hnd
  obtain ⟨hn1, hn2, hn3⟩ := hnd
  rw [List.nodup_cons] at hn2
  have hk1 : k ∉ L1 := fun hx => hn3 k hx k (by simp) rfl
  have hf : (L1 ++ k :: L2).filter (fun x => !(x == k)) = L1 ++ L2 := by
    rw [List.filter_append, List.filter_cons]
    simp only [beq_self_eq_true, Bool.not_true, Bool.false_eq_true, if_false]
    rw [List.filter_eq_self.2 (fun x hx => by simp; rintro rfl; exact hk1 hx), List.filter_eq_self.2 (fun x hx => by simp; rintro rfl; exact hn2.1 hx)]
  rw [hf]
  have a0 : L1 ≠ [] → p.1 ≠ -1 ∧ p.1 ∈ L1 ∧ p.1 ≠ k := by
    intro hL
    have hm := last_mem (-1) L1 hL
    rw [← hp1] at hm
    have := h.nonneg p.1 (by simp [hm])
    exact ⟨by omega, hm, fun e => hk1 (e ▸ hm)⟩
  have a1 : L1 = [] → p.1 = -1 := by rintro rfl; rw [hp1]; rfl
  have b0 : L2 ≠ [] → p.2 ≠ -1 ∧ p.2 ∈ L2 ∧ p.2 ≠ k := by
    intro hL
    have hm : p.2 ∈ L2 := by
      rw [hp2]
      cases L2 with
      | nil => exact absurd rfl hL
      | cons x r => simp
    have := h.nonneg p.2 (by simp [hm])
    exact ⟨by omega, hm, fun e => hn2.1 (e ▸ hm)⟩
  have b1 : L2 = [] → p.2 = -1 := by rintro rfl; rw [hp2]; rfl
  have hab : L1 ≠ [] → L2 ≠ [] → p.2 ≠ p.1 := fun h1 h2 e => hn3 p.1 (a0 h1).2.1 p.2 (by simp [(b0 h2).2.1]) e.symm
  have key : ∀ x, eget (tE2 (tE1 (edel E k) p.1 p.2) p.1 p.2) x = if L2 ≠ [] ∧ x = p.2 then some (p.1, ((eget E p.2).getD (0, 0)).2) else if L1 ≠ [] ∧ x = p.1 then some (((eget E p.1).getD (0, 0)).1, p.2) else if x = k then none else eget E x := by
    intro x
    rw [eget_tE2, eget_tE1, eget_tE1]
    simp only [eget_edel]
    by_cases hL2 : L2 = []
    · have e2 := b1 hL2
      by_cases hL1 : L1 = []
      · have e1 := a1 hL1
        simp [hL1, hL2, e1, e2]
      · have e1 := a0 hL1
        simp [hL1, hL2, e1.1, e1.2.2, e2]
    · have e2 := b0 hL2
      by_cases hL1 : L1 = []
      · have e1 := a1 hL1
        simp [hL1, hL2, e1, e2.1, e2.2.2]
      · have e1 := a0 hL1
        have e3 := hab hL1 hL2
        simp [hL1, hL2, e1.1, e1.2.2, e2.1, e2.2.2, e3]
  have hmid : ∀ x ∈ L1, x ≠ k := fun x hx e => hk1 (e ▸ hx)
  have hmid2 : ∀ x ∈ L2, x ≠ k := fun x hx e => hn2.1 (e ▸ hx)
  refine ⟨?_, ?_, ?_, ?_, ?_, ?_, ?_⟩
  · exact List.nodup_append.2 ⟨hn1, hn2.2, fun x hx y hy => hn3 x hx y (by simp [hy])⟩
  · intro x hx
    rcases List.mem_append.1 hx with hx | hx
    · exact h.nonneg x (by simp [hx])
    · exact h.nonneg x (by simp [hx])
  · exact nodup_tE2 (nodup_tE1 (nodup_edel h.keys _) _ _) _ _
  · intro x
    rw [key]
    by_cases hx2 : L2 ≠ [] ∧ x = p.2
    · rw [if_pos hx2]; simp only [Option.isSome_some, true_iff, List.mem_append]; exact .inr (hx2.2 ▸ (b0 hx2.1).2.1)
    · rw [if_neg hx2]
      by_cases hx1 : L1 ≠ [] ∧ x = p.1
      · rw [if_pos hx1]; simp only [Option.isSome_some, true_iff, List.mem_append]; exact .inl (hx1.2 ▸ (a0 hx1.1).2.1)
      · rw [if_neg hx1]
        by_cases hxk : x = k
        · rw [if_pos hxk]
          subst hxk
          simp [hk1, hn2.1]
        · rw [if_neg hxk, h.dom]
          simp [hxk]
  · rw [chain_append]
    refine ⟨chain_next (-1) L1 k _ hn1 hc1 ?_ ?_, chain_prev k _ L2 (-1) hc3 ?_ hn2.2 ?_⟩
    · intro x hx hne
      rw [← hp1] at hne
      rw [key, if_neg (by rintro ⟨hL, rfl⟩; exact hn3 _ hx p.2 (by simp [(b0 hL).2.1]) rfl), if_neg (by simp [hne]), if_neg (hmid x hx)]
    · intro hL
      rw [← hp1, key, if_neg (by rintro ⟨hL2, e⟩; exact hab hL hL2 e.symm), if_pos ⟨hL, rfl⟩, hp2]
    · intro x hx hne
      have hL2 : L2 ≠ [] := by rintro rfl; cases hx
      rw [← hp2] at hne
      rw [key, if_neg (by simp [hne]), if_neg (by rintro ⟨hL, rfl⟩; exact hn3 _ (a0 hL).2.1 p.1 (by simp [hx]) rfl), if_neg (hmid2 x hx)]
    · intro hL
      rw [← hp2, key, if_pos ⟨hL, rfl⟩, hp1]
  · unfold tF
    cases L1 with
    | nil => rw [if_pos (a1 rfl), hp2]; rfl
    | cons y r => rw [if_neg (a0 (by simp)).1, h.first]; rfl
  · unfold tL
    rw [last_append]
    by_cases hL2 : L2 = []
    · rw [if_pos (b1 hL2), hL2, hp1]; rfl
    · rw [if_neg (b0 hL2).1, h.lst, last_append, last_cons]
      cases L2 with
      | nil => exact absurd rfl hL2
      | cons y r => rw [last_cons, last_cons]
end Line
end Go.Proofs.YtnheibcjcgacpaaGreatDoor
