/- The model package's walk: a part's do, at each kind of operation. -/
import Derived.Test.YtagmkkddjdlncaaDoorMoK
import Derived.Laws.ResultCell
set_option linter.unusedVariables false
set_option linter.unusedSimpArgs false
namespace Go.Proofs.YtagmkkddjdlncaaDoor
open Go.RowKit Go.ChangeMaps
theorem kset (w : World) (b i : Nat) (v : Value) : Keeps (fun x => x = b) w (w.setCell ⟨b, i, none⟩ v) := (Keeps.refl _ _).setCell _ _ (.inl rfl)
theorem set6 {w : World} {b : Nat} {x0 x1 x2 x3 x4 x5 : Value} {t : TypeId} (h : w.heap[b]? = some (.cells #[x0, x1, x2, x3, x4, x5] t (0, 0))) (y0 y1 y2 y3 y4 y5 : Value) :
    ((((((w.setCell ⟨b, 0, none⟩ y0).setCell ⟨b, 1, none⟩ y1).setCell ⟨b, 2, none⟩ y2).setCell ⟨b, 3, none⟩ y3).setCell ⟨b, 4, none⟩ y4).setCell ⟨b, 5, none⟩ y5).heap[b]? = some (.cells #[y0, y1, y2, y3, y4, y5] t (0, 0)) := by
  have h0 := set_of h 0 y0
  have h1 := set_of h0 1 y1
  have h2 := set_of h1 2 y2
  have h3 := set_of h2 3 y3
  have h4 := set_of h3 4 y4
  exact set_of h4 5 y5
theorem six_cells {w : World} {b : Nat} {x0 x1 x2 x3 x4 x5 : Value} {t : TypeId} (h : w.heap[b]? = some (.cells #[x0, x1, x2, x3, x4, x5] t (0, 0))) :
    (w.cell? ⟨b, 0, none⟩ = some x0 ∧ w.cell? ⟨b, 1, none⟩ = some x1 ∧ w.cell? ⟨b, 2, none⟩ = some x2 ∧ w.cell? ⟨b, 3, none⟩ = some x3 ∧ w.cell? ⟨b, 4, none⟩ = some x4 ∧ w.cell? ⟨b, 5, none⟩ = some x5) ∧
    (w.frozen? ⟨b, 0, none⟩ = false ∧ w.frozen? ⟨b, 1, none⟩ = false ∧ w.frozen? ⟨b, 2, none⟩ = false ∧ w.frozen? ⟨b, 3, none⟩ = false ∧ w.frozen? ⟨b, 4, none⟩ = false ∧ w.frozen? ⟨b, 5, none⟩ = false) :=
  ⟨⟨cell_of h 0 rfl, cell_of h 1 rfl, cell_of h 2 rfl, cell_of h 3 rfl, cell_of h 4 rfl, cell_of h 5 rfl⟩, free_of h 0, free_of h 1, free_of h 2, free_of h 3, free_of h 4, free_of h 5⟩
namespace Mo
/-- An answer's cells. -/
def acells (a : XAns) : Array Value := #[.int .i64 a.err, .int .u64 a.handle, .int .i64 a.addr, .int .i64 a.n, .string a.data, .int .i64 a.charged]
/-- What do leaves: the answer, the part. -/
def DoR (w : World) (p : Plc) (g : Int → Nat) (P : PP) (a : XAns) (P' : PP) (e : Ending) (w' : World) : Prop := e = .returned (.agg a.enc.toArray) ∧ PR w p g P P' w'
/-- A part's steps beside a block B of the call's own (w0: the world ahead of it). -/
def PB (w0 : World) (B : Nat) (p : Plc) (g : Int → Nat) (P : PP) (g' : Int → Nat) (P' : PP) (w' : World) : Prop := PAt w' p g' P' ∧ Keeps (Fp p g P.E) w0 w' ∧ (∀ i, Fp p g' P'.E i → Fp p g P.E i ∨ (w0.heap.size ≤ i ∧ i ≠ B)) ∧ w0.heap.size ≤ B ∧ ¬ Fp p g P.E B ∧ B < w'.heap.size
theorem PB.start {w0 w : World} {B : Nat} {p : Plc} {g : Int → Nat} {P : PP} (H : PAt w0 p g P) (k : Keeps (fun _ => False) w0 w) (h1 : w0.heap.size ≤ B) (h2 : B < w.heap.size) : PB w0 B p g P g P w :=
  ⟨H.old k, k.mono (fun _ _ x => x.elim), fun _ h => .inl h, h1, fun h => by have := H.lt h; omega, h2⟩
theorem PB.nf {w0 w : World} {B : Nat} {p : Plc} {g g1 : Int → Nat} {P P1 : PP} (h : PB w0 B p g P g1 P1 w) : ¬ Fp p g1 P1.E B := by
  obtain ⟨A, K, F, h1, h2, h3⟩ := h
  intro hx
  rcases F _ hx with h | ⟨_, h⟩
  · exact h2 h
  · exact h rfl
theorem PB.step {w0 w w2 : World} {B : Nat} {p : Plc} {g g1 g2 : Int → Nat} {P P1 P2 : PP} (h : PB w0 B p g P g1 P1 w) (r : PRG w p g1 P1 g2 P2 w2) : PB w0 B p g P g2 P2 w2 := by
  obtain ⟨A, K, F, h1, h2, h3⟩ := h
  obtain ⟨A2, K2, F2⟩ := r
  refine ⟨A2, K.trans' K2 (fun x hx hl => ?_), fun i hi => ?_, h1, h2, Nat.lt_of_lt_of_le h3 K2.size⟩
  · rcases F x hx with h | ⟨h, _⟩
    · exact h
    · omega
  · rcases F2 i hi with h | h
    · exact F i h
    · exact .inr ⟨Nat.le_trans K.size h, by omega⟩
theorem PB.old {w0 w w2 : World} {B : Nat} {p : Plc} {g g1 : Int → Nat} {P P1 : PP} (h : PB w0 B p g P g1 P1 w) (k : Keeps (fun _ => False) w w2) : PB w0 B p g P g1 P1 w2 :=
  h.step ⟨h.1.old k, k.mono (fun _ _ x => x.elim), fun _ h => .inl h⟩
theorem PB.set {w0 w w2 : World} {B : Nat} {p : Plc} {g g1 : Int → Nat} {P P1 : PP} (h : PB w0 B p g P g1 P1 w) (k : Keeps (fun x => x = B) w w2) : PB w0 B p g P g1 P1 w2 := by
  have hn := h.nf
  obtain ⟨A, K, F, h1, h2, h3⟩ := h
  refine ⟨A.keep k (fun x hx e => hn (e ▸ hx)), K.trans' k (fun x hx hl => ?_), F, h1, h2, Nat.lt_of_lt_of_le h3 k.size⟩
  subst hx
  omega
theorem PB.pr {w0 w : World} {B : Nat} {p : Plc} {g g1 : Int → Nat} {P P1 : PP} (h : PB w0 B p g P g1 P1 w) : PR w0 p g P P1 w := by
  obtain ⟨A, K, F, h1, h2, h3⟩ := h
  refine ⟨g1, A, K, fun i hi => ?_⟩
  rcases F i hi with h | ⟨h, _⟩
  · exact .inl h
  · exact .inr h
end Mo
end Go.Proofs.YtagmkkddjdlncaaDoor
