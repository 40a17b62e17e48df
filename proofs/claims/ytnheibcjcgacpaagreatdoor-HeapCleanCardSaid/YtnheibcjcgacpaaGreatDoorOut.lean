/- Own slices of records. -/
import Derived.Test.YtnheibcjcgacpaaGreatDoorRd
set_option linter.unusedVariables false
set_option linter.unusedSimpArgs false
namespace Go.Proofs.YtnheibcjcgacpaaGreatDoor
open Go.RowKit Go.ChangeMaps
/-- An own slice of records, its block from B on. -/
def OutR (e sz B : Nat) (w : World) (v : Value) (n : Nat) (cs : List Value) : Prop := Own w e sz v n cs ∧ ∀ g, v.ownBlock = some g → B ≤ g
theorem OutR.nil (e sz B : Nat) (w : World) : OutR e sz B w (.slice none 0 0) 0 [] := ⟨Own.nil _ _ _, by simp [Value.ownBlock]⟩
theorem OutR.old {e sz B : Nat} {w w' : World} {v : Value} {n : Nat} {cs : List Value} (h : OutR e sz B w v n cs) (k : Keeps (fun _ => False) w w') : OutR e sz B w' v n cs := ⟨h.1.keep k (fun _ _ x => x), h.2⟩
theorem OutR.rd {e sz B : Nat} {w : World} {v : Value} {n : Nat} {cs : List Value} (h : OutR e sz B w v n cs) : ∃ A cap, v = .slice A n cap ∧ n ≤ cap ∧ (∀ ad, A = some ad → B ≤ ad.block ∧ ad.block < w.heap.size) ∧ Rd w A cs := by
  obtain ⟨A, cap, hv, hc, hn, hr⟩ := h.1.shape
  refine ⟨A, cap, hv, hc, fun ad ha => ⟨h.2 _ (by rw [hv, ha]; rfl), h.1.lt (by rw [hv, ha]; rfl)⟩, fun j u hu => ?_⟩
  have hj : j < n * sz := by
    rcases Nat.lt_or_ge j (n * sz) with hh | hh
    · exact hh
    · rw [List.getElem?_eq_none (by rw [h.1.length]; exact hh)] at hu; simp at hu
  obtain ⟨g, hA, hg, he⟩ := hr j hj
  refine ⟨_, hA, ?_⟩
  rw [addr_add, Nat.zero_add, he]; exact hu
/-- Behind an append of one. -/
theorem OutR.app {e sz B : Nat} {w w0 w' : World} {v v' : Value} {n : Nat} {cs ds : List Value} (h : OutR e sz B w v n cs) (o : Own w' e sz v' (n + 1) (cs ++ ds)) (at' : v'.ownBlock = v.ownBlock ∨ v'.ownBlock = some (w0.heap.size + 1)) (hB : B ≤ w0.heap.size) : OutR e sz B w' v' (n + 1) (cs ++ ds) := by
  refine ⟨o, fun g hg => ?_⟩
  rcases at' with h1 | h1
  · exact h.2 g (by rw [← h1]; exact hg)
  · rw [h1] at hg; cases hg; omega
theorem OutR.keeps {e sz : Nat} {w0 w w' : World} {v : Value} {n : Nat} {cs : List Value} (h : OutR e sz w0.heap.size w v n cs) (k0 : Keeps (fun _ => False) w0 w) (k : Keeps (fun b => v.ownBlock = some b) w w') : Keeps (fun _ => False) w0 w' :=
  k0.trans' k (fun x hx hl => by have := h.2 x hx; omega)
theorem flat_length {α : Type} (enc : α → List Value) (sz : Nat) (hsz : ∀ x, (enc x).length = sz) (L : List α) : (L.flatMap enc).length = L.length * sz := by
  induction L with
  | nil => simp
  | cons a l ih => rw [List.flatMap_cons, List.length_append, ih, hsz, List.length_cons, Nat.succ_mul]; omega
/-- Behind 'append(S([]E{}), s...)'. -/
theorem clone_end {e sz : Nat} {w w3 w5 : World} {v5 : Value} {n : Nat} {news : List Value} (k3 : Keeps (fun _ => False) w w3) (o5 : Own w5 e sz v5 (0 + n) ([] ++ news)) (k5 : Keeps (fun b => (Value.slice (some ⟨w.heap.size, 0, none⟩) 0 0).ownBlock = some b) w3 w5)
    (at5 : v5.ownBlock = (Value.slice (some ⟨w.heap.size, 0, none⟩) 0 0).ownBlock ∨ v5.ownBlock = some w3.heap.size) : OutR e sz w.heap.size w5 v5 n news ∧ Keeps (fun _ => False) w w5 := by
  rw [Nat.zero_add, List.nil_append] at o5
  have hz := k3.size
  refine ⟨⟨o5, fun g hg => ?_⟩, k3.trans' k5 (fun x hx hl => ?_)⟩
  · rcases at5 with h | h
    · rw [h] at hg
      have hg' : some w.heap.size = some g := hg
      injection hg' with hg'
      omega
    · rw [h] at hg
      injection hg with hg
      omega
  · have hx' : some w.heap.size = some x := hx
    injection hx' with hx'
    omega
theorem keep_cell2 {w w' : World} {b i : Nat} {v : Value} (k : Keeps (fun _ => False) w.drew w') (h : w.cell? ⟨b, i, none⟩ = some v) : w'.cell? ⟨b, i, none⟩ = some v := by
  have hr : Rd w.drew (some ⟨b, i, none⟩) [v] := by
    intro j u hu
    cases j with
    | zero => simp at hu; subst hu; exact ⟨_, rfl, by simpa [Addr.add] using h⟩
    | succ j => simp at hu
  obtain ⟨ad, e, hc⟩ := (hr.old k) 0 v rfl
  cases e
  simpa [Addr.add] using hc
theorem keep_cell1 {w w' : World} {b i : Nat} {v : Value} (k : Keeps (fun _ => False) w w') (h : w.cell? ⟨b, i, none⟩ = some v) : w'.cell? ⟨b, i, none⟩ = some v := by
  have hr : Rd w (some ⟨b, i, none⟩) [v] := by
    intro j u hu
    cases j with
    | zero => simp at hu; subst hu; exact ⟨_, rfl, by simpa [Addr.add] using h⟩
    | succ j => simp at hu
  obtain ⟨ad, e, hc⟩ := (hr.old k) 0 v rfl
  cases e
  simpa [Addr.add] using hc
theorem keep_cell {F : Nat → Prop} {w w' : World} {b i : Nat} {v : Value} (k : Keeps F w w') (hf : ¬ F b) (h : w.cell? ⟨b, i, none⟩ = some v) : w'.cell? ⟨b, i, none⟩ = some v := by
  have hb : b < w.heap.size := by
    rcases Nat.lt_or_ge b w.heap.size with hh | hh
    · exact hh
    · simp only [World.cell?] at h
      rw [Array.getElem?_eq_none hh] at h
      cases h
  have e := k.block b hb hf
  have q : w'.cell? ⟨b, i, none⟩ = w.cell? ⟨b, i, none⟩ := by simp only [World.cell?, e]
  rw [q]; exact h
theorem keep_free {F : Nat → Prop} {w w' : World} {b i : Nat} (k : Keeps F w w') (hb : b < w.heap.size) (hf : ¬ F b) (h : w.frozen? ⟨b, i, none⟩ = false) : w'.frozen? ⟨b, i, none⟩ = false := by
  have e := k.block b hb hf
  have q : w'.frozen? ⟨b, i, none⟩ = w.frozen? ⟨b, i, none⟩ := by simp only [World.frozen?, e]
  rw [q]; exact h
theorem own_free {w : World} {e : Nat} {v : Value} {n : Nat} {xs : List Value} (h : Own w e 1 v n xs) {g : Nat} (hg : v.ownBlock = some g) (i : Nat) : w.frozen? ⟨g, i, none⟩ = false := by
  rcases h.2 with ⟨h2, _⟩ | ⟨g', cap, cur, hv, _, hh, _⟩
  · rw [h2] at hg; cases hg
  · rw [hv] at hg; cases hg; exact free_of hh i
theorem own_set {w : World} {e : Nat} {v : Value} {n : Nat} {xs : List Value} (h : Own w e 1 v n xs) {g : Nat} (hg : v.ownBlock = some g) (i : Nat) (u : Value) : Own (w.setCell ⟨g, i, none⟩ u) e 1 v n (xs.set i u) := by
  refine ⟨by rw [List.length_set]; exact h.1, ?_⟩
  rcases h.2 with ⟨h2, _⟩ | ⟨g', cap, cur, hv, hb, hh, hc, hcm, hs, ht⟩
  · rw [h2] at hg; cases hg
  · have hgg : g' = g := by rw [hv] at hg; exact Option.some.inj hg
    subst hgg
    refine .inr ⟨g', cap, _, hv, hb, set_of hh i u, hc, hcm, by simpa using hs, ?_⟩
    rw [← ht, Array.toList_setIfInBounds, List.take_set]
theorem OutR.low {e sz B B' : Nat} {w : World} {v : Value} {n : Nat} {cs : List Value} (h : OutR e sz B w v n cs) (hB : B' ≤ B) : OutR e sz B' w v n cs := ⟨h.1, fun g hg => Nat.le_trans hB (h.2 g hg)⟩
end Go.Proofs.YtnheibcjcgacpaaGreatDoor
