/- LinePlays: the line and the document's line, side by side. -/
import Derived.Test.YtmlolkjgniodpaaLineG
import Derived.Test.YtmlolkjgniodpaaArgs
set_option linter.unusedVariables false
set_option linter.unusedSimpArgs false
namespace Go.Proofs.Ytmlolkjgniodpaa
open Go.RowKit Go.ChangeMaps
namespace Line
structure LOp where
  kind : Int
  k : Int
def LOp.enc (o : LOp) : List Value := [.int .i64 o.kind, .int .i64 o.k]
theorem op_cells {w : World} {A : Option Addr} {xs : List LOp} (h : ∀ j u, (xs.flatMap LOp.enc)[j]? = some u → ∃ ad, A = some ad ∧ w.cell? (ad.add j) = some u) (j : Nat) (hj : j < xs.length) :
    ∃ b o s kind k, A = some ⟨b, o, s⟩ ∧ w.cell? ((⟨b, o, s⟩ : Addr).add (j * 2)) = some (.int .i64 kind) ∧ w.cell? ⟨((⟨b, o, s⟩ : Addr).add (j * 2)).block, ((⟨b, o, s⟩ : Addr).add (j * 2)).off + 1, none⟩ = some (.int .i64 k) := by
  have e := List.getElem?_eq_getElem hj
  have e0 := flatMap_get LOp.enc 2 (fun _ => rfl) xs j _ e 0 (by omega)
  have e1 := flatMap_get LOp.enc 2 (fun _ => rfl) xs j _ e 1 (by omega)
  obtain ⟨ad, rfl, h0⟩ := h _ _ e0
  obtain ⟨ad', ha, h1⟩ := h _ _ e1
  cases ha
  exact ⟨ad.block, ad.off, ad.spot, _, _, rfl, h0, cell_field (by omega) h1⟩

/-- Both lines stand for L; their blocks are apart, and from B on. -/
structure Both (B : Nat) (w : World) (b m rb : Nat) (v : Value) (L : List Int) : Prop where
  line : Rep w b m L
  ref : RLine.At w rb v L
  hb : B ≤ b
  hm : B ≤ m
  hr : B ≤ rb
  hrb : rb ≠ b
  hrm : rb ≠ m
  hv : ∀ g, v.ownBlock = some g → B ≤ g ∧ g ≠ b ∧ g ≠ m

theorem Both.old {B : Nat} {w w' : World} {b m rb : Nat} {v : Value} {L : List Int} (h : Both B w b m rb v L) (k : Keeps (fun _ => False) w w') : Both B w' b m rb v L :=
  ⟨h.line.keep k (fun x => x) (fun x => x), h.ref.old k, h.hb, h.hm, h.hr, h.hrb, h.hrm, h.hv⟩
/-- The line goes on; the document's stands. -/
theorem Both.left {B : Nat} {w w' : World} {b m rb : Nat} {v : Value} {L L' : List Int} (h : Both B w b m rb v L) (k : Keeps (fun x => x = b ∨ x = m) w w') (hl : Rep w' b m L') : Rep w' b m L' ∧ RLine.At w' rb v L :=
  ⟨hl, h.ref.keep k (by have := h.hrb; have := h.hrm; omega) (fun g hg => by have := h.hv g hg; omega)⟩
theorem both_mk {B : Nat} {w w1 w2 : World} {b m rb : Nat} {v : Value} {L L' : List Int} (h : Both B w b m rb v L) (k1 : Keeps (fun x => x = b ∨ x = m) w w1) (hl : Rep w1 b m L') (k2 : Keeps (fun x => x = rb ∨ v.ownBlock = some x) w1 w2)
    (h2 : ∃ v', RLine.At w2 rb v' L' ∧ (v'.ownBlock = v.ownBlock ∨ ∀ g, v'.ownBlock = some g → w1.heap.size ≤ g)) (hB : B ≤ w.heap.size) : ∃ v', Both B w2 b m rb v' L' ∧ Keeps (fun x => B ≤ x) w w2 := by
  obtain ⟨v', h3, h4⟩ := h2
  have hlt := hl.lt
  have h1s := k1.size
  refine ⟨v', ⟨hl.keep k2 ?_ ?_, h3, h.hb, h.hm, h.hr, h.hrb, h.hrm, fun g hg => ?_⟩, ?_⟩
  · rintro (e | e)
    · exact h.hrb e.symm
    · exact (h.hv _ e).2.1 rfl
  · rintro (e | e)
    · exact h.hrm e.symm
    · exact (h.hv _ e).2.2 rfl
  · rcases h4 with e | e
    · exact h.hv g (by rw [← e]; exact hg)
    · have := e g hg; omega
  · refine (k1.mono (fun x _ hx => ?_)).trans' k2 (fun x hx _ => ?_)
    · have := h.hb; have := h.hm; rcases hx with rfl | rfl <;> omega
    · rcases hx with rfl | hx
      · exact h.hr
      · exact (h.hv x hx).1
end Line
end Go.Proofs.Ytmlolkjgniodpaa
