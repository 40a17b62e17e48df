/- A script's operations of the table; the table's calls under its invariant. -/
import Derived.Test.YtcjdejhjbelggaaTabE
set_option linter.unusedVariables false
set_option linter.unusedSimpArgs false
namespace Go.Proofs.Ytcjdejhjbelggaa
open Go.RowKit Go.ChangeMaps
namespace Tab
structure TOp where
  kind : Int
  v : Int
  p : Int
def TOp.enc (o : TOp) : List Value := [.int .i64 o.kind, .int .i64 o.v, .int .i64 o.p]
theorem op_cells {w : World} {A : Option Addr} {xs : List TOp} (h : Rd w A (xs.flatMap TOp.enc)) (j : Nat) (hj : j < xs.length) :
    ∃ b o s x y z, A = some ⟨b, o, s⟩ ∧ w.cell? ((⟨b, o, s⟩ : Addr).add (j * 3)) = some (.int .i64 x) ∧ w.cell? ⟨((⟨b, o, s⟩ : Addr).add (j * 3)).block, ((⟨b, o, s⟩ : Addr).add (j * 3)).off + 1, none⟩ = some (.int .i64 y) ∧
      w.cell? ⟨((⟨b, o, s⟩ : Addr).add (j * 3)).block, ((⟨b, o, s⟩ : Addr).add (j * 3)).off + 2, none⟩ = some (.int .i64 z) := by
  have e := List.getElem?_eq_getElem hj
  have e0 := flatMap_get TOp.enc 3 (fun _ => rfl) xs j _ e 0 (by omega)
  have e1 := flatMap_get TOp.enc 3 (fun _ => rfl) xs j _ e 1 (by omega)
  have e2 := flatMap_get TOp.enc 3 (fun _ => rfl) xs j _ e 2 (by omega)
  obtain ⟨ad, rfl, h0⟩ := h _ _ e0
  obtain ⟨ad', ha, h1⟩ := h _ _ e1
  cases ha
  obtain ⟨ad', ha, h2⟩ := h _ _ e2
  cases ha
  exact ⟨ad.block, ad.off, ad.spot, _, _, _, rfl, h0, cell_field (by omega) h1, cell_field (by omega) h2⟩
/-- A table of pairs that go there and back; its blocks are from B on. -/
def Tb (B : Nat) (w : World) (b m n : Nat) (E G : Prs) : Prop := At w b m n E G ∧ Inv E G ∧ B ≤ b ∧ B ≤ m ∧ B ≤ n
theorem Tb.old {B : Nat} {w w' : World} {b m n : Nat} {E G : Prs} (h : Tb B w b m n E G) (k : Keeps (fun _ => False) w w') : Tb B w' b m n E G := ⟨h.1.old k, h.2⟩
theorem Tb.fresh {B : Nat} {w w' w0 : World} {b m n : Nat} {E G : Prs} (h : Tb B w b m n E G) (k0 : Keeps (fun _ => False) w0 w) (hB : w0.heap.size ≤ B) (k : Keeps (fun x => x = m ∨ x = n) w w') : Keeps (fun _ => False) w0 w' :=
  k0.trans' k (fun x hx hl => by have := h.2.2.2; omega)
theorem tb_map {B : Nat} {w : World} {b m n : Nat} {E G : Prs} (v p : Int) (h : Tb B w b m n E G) :
    Calls Try.prog 7 #[.pointer (some ⟨b, 0, none⟩), .int .i64 v, .int .i64 p] w fun e w' => e = .returned (.int .i64 (mapE E G v p)) ∧ Tb B w' b m n (mapS E G v p).1 (mapS E G v p).2 ∧ Keeps (fun x => x = m ∨ x = n) w w' :=
  (map_any w b m n E G v p h.1).mono fun e w' ⟨h1, h2, h3⟩ => ⟨h1, ⟨h2, h.2.1.map v p, h.2.2⟩, h3⟩
theorem tb_unmap {B : Nat} {w : World} {b m n : Nat} {E G : Prs} (v : Int) (h : Tb B w b m n E G) :
    Calls Try.prog 9 #[.pointer (some ⟨b, 0, none⟩), .int .i64 v] w fun e w' => e = .returned (.tuple #[.int .i64 (unE E v).1, .int .i64 (unE E v).2]) ∧ Tb B w' b m n (unS E G v).1 (unS E G v).2 ∧ Keeps (fun x => x = m ∨ x = n) w w' :=
  (unmap_any w b m n E G v h.1).mono fun e w' ⟨h1, h2, h3⟩ => ⟨h1, ⟨h2, h.2.1.un v, h.2.2⟩, h3⟩
theorem tb_swap {B : Nat} {w : World} {b m n : Nat} {E G : Prs} (v p : Int) (h : Tb B w b m n E G) :
    Calls Try.prog 11 #[.pointer (some ⟨b, 0, none⟩), .int .i64 v, .int .i64 p] w fun e w' => e = .returned (.tuple #[.int .i64 (swE E G v p).1, .int .i64 (swE E G v p).2]) ∧ Tb B w' b m n (swS E G v p).1 (swS E G v p).2 ∧ Keeps (fun x => x = m ∨ x = n) w w' :=
  (swap_any w b m n E G v p h.1).mono fun e w' ⟨h1, h2, h3⟩ => ⟨h1, ⟨h2, h.2.1.sw v p, h.2.2⟩, h3⟩
theorem tb_new (w : World) : Calls Try.prog 6 #[] w fun e w' => ∃ b m n, e = .returned (.pointer (some ⟨b, 0, none⟩)) ∧ Tb w.heap.size w' b m n [] [] ∧ Keeps (fun _ => False) w w' :=
  (new_any w).mono fun e w' ⟨b, m, n, h1, h2, h3, h4, h5, h6⟩ => ⟨b, m, n, h1, ⟨h2, Inv.nil, h3, h4, h5⟩, h6⟩

theorem eqI (x : Int) : (x == x) = true := by simp
theorem neI (x : Int) : (x != x) = false := by simp
end Tab
end Go.Proofs.Ytcjdejhjbelggaa
