/- Spans (api.Span): their cells, their equality, garthref01.Same. -/
import Derived.Test.YtnheibcjcgacpaaGreatDoorSame
import Derived.Test.YtnheibcjcgacpaaGreatDoorArgs
import Derived.Laws.StructEq
set_option linter.unusedVariables false
set_option linter.unusedSimpArgs false
namespace Go.Proofs.YtnheibcjcgacpaaGreatDoor
open Go.RowKit Go.ChangeMaps
structure Sp where
  at' : Int
  n : Int
  wrote : Bool
deriving DecidableEq
def Sp.enc (s : Sp) : List Value := [.int .i64 s.at', .int .i64 s.n, .bool s.wrote]
def spans (L : List Sp) : List Value := L.flatMap Sp.enc
theorem spans_append (L M : List Sp) : spans (L ++ M) = spans L ++ spans M := by simp [spans]
theorem spans_length (L : List Sp) : (spans L).length = L.length * 3 := by
  induction L with
  | nil => rfl
  | cons a l ih => simp only [spans, List.flatMap_cons, List.length_append, List.length_cons] at *; rw [ih]; show 3 + _ = _; omega
theorem slSpans : SlT Tryz.prog 58 61 3 24 := SlT.mk' (z := .agg #[.int .i64 0, .int .i64 0, .bool false]) Tryz.underlying58 (by kernel_rfl) rfl (by decide)
theorem sp_cells {w : World} {A : Option Addr} {xs : List Sp} (h : Rd w A (spans xs)) (j : Nat) (hj : j < xs.length) :
    ∃ b o s x y z, xs[j]? = some ⟨x, y, z⟩ ∧ A = some ⟨b, o, s⟩ ∧ w.cell? ((⟨b, o, s⟩ : Addr).add (j * 3)) = some (.int .i64 x) ∧ w.cell? ⟨((⟨b, o, s⟩ : Addr).add (j * 3)).block, ((⟨b, o, s⟩ : Addr).add (j * 3)).off + 1, none⟩ = some (.int .i64 y) ∧
      w.cell? ⟨((⟨b, o, s⟩ : Addr).add (j * 3)).block, ((⟨b, o, s⟩ : Addr).add (j * 3)).off + 2, none⟩ = some (.bool z) := by
  have e := List.getElem?_eq_getElem hj
  have e0 := flatMap_get Sp.enc 3 (fun _ => rfl) xs j _ e 0 (by omega)
  have e1 := flatMap_get Sp.enc 3 (fun _ => rfl) xs j _ e 1 (by omega)
  have e2 := flatMap_get Sp.enc 3 (fun _ => rfl) xs j _ e 2 (by omega)
  obtain ⟨ad, rfl, h0⟩ := h _ _ e0
  obtain ⟨ad', ha, h1⟩ := h _ _ e1
  cases ha
  obtain ⟨ad', ha, h2⟩ := h _ _ e2
  cases ha
  exact ⟨ad.block, ad.off, ad.spot, _, _, _, e, rfl, h0, cell_field (by omega) h1, cell_field (by omega) h2⟩
end Go.Proofs.YtnheibcjcgacpaaGreatDoor
