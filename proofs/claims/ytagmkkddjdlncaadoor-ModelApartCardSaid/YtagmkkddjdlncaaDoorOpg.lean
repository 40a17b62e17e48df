/- Operations that are handed over (api.Op, rows of them), read as they are. -/
import Derived.Test.YtagmkkddjdlncaaDoorRec
import Derived.Test.YtagmkkddjdlncaaDoorByt
set_option linter.unusedVariables false
set_option linter.unusedSimpArgs false
namespace Go.Proofs.YtagmkkddjdlncaaDoor
open Go.RowKit Go.ChangeMaps
theorem i64_of {x : Int} (h : (Lit.int .i64 x).wf = true) : -9223372036854775808 ≤ x ∧ x ≤ 9223372036854775807 := by
  simp only [Lit.wf, Bool.and_eq_true, decide_eq_true_eq] at h
  have m1 : IntKind.i64.min = -9223372036854775808 := rfl
  have m2 : IntKind.i64.max = 9223372036854775807 := rfl
  omega
theorem u64_of {x : Int} (h : (Lit.int .u64 x).wf = true) : 0 ≤ x ∧ x < 18446744073709551616 := by
  simp only [Lit.wf, Bool.and_eq_true, decide_eq_true_eq] at h
  have m1 : IntKind.u64.min = 0 := rfl
  have m2 : IntKind.u64.max = 18446744073709551615 := rfl
  omega
/-- An operation, its handle and its bytes in Lean's own types. -/
structure GOp where
  kind : Int
  tenant : Int
  n : Int
  m : Int
  handle : Nat
  data : Bs
def GOp.op (o : GOp) : XOp := ⟨o.kind, o.tenant, o.n, o.m, o.handle, bs o.data⟩
def GOp.enc (o : GOp) : List Value := [.int .i64 o.kind, .int .i64 o.tenant, .int .i64 o.n, .int .i64 o.m, .int .u64 o.handle, .string (bs o.data)]
structure GOp.Ok (o : GOp) : Prop where
  k : -9223372036854775808 ≤ o.kind ∧ o.kind ≤ 9223372036854775807
  t : -9223372036854775808 ≤ o.tenant ∧ o.tenant ≤ 9223372036854775807
  n : -9223372036854775808 ≤ o.n ∧ o.n ≤ 9223372036854775807
  m : -9223372036854775808 ≤ o.m ∧ o.m ≤ 9223372036854775807
  h : o.handle < 18446744073709551616
  d : o.data.length ≤ maxLen
theorem dec_gop {w : World} {n : Nat} (cs : List Value) (h : All2 (Leaf.ok w (n + 1)) [.int .i64, .int .i64, .int .i64, .int .i64, .int .u64, .str] cs) : ∃ x : GOp, x.Ok ∧ cs = x.enc := by
  obtain ⟨b1, bs1, rfl, h1, g1⟩ := h.inv_cons
  obtain ⟨b2, bs2, rfl, h2, g2⟩ := g1.inv_cons
  obtain ⟨b3, bs3, rfl, h3, g3⟩ := g2.inv_cons
  obtain ⟨b4, bs4, rfl, h4, g4⟩ := g3.inv_cons
  obtain ⟨b5, bs5, rfl, h5, g5⟩ := g4.inv_cons
  obtain ⟨b6, bs6, rfl, h6, g6⟩ := g5.inv_cons
  obtain rfl := g6.inv_nil
  obtain ⟨x1, rfl, q1⟩ := h1
  obtain ⟨x2, rfl, q2⟩ := h2
  obtain ⟨x3, rfl, q3⟩ := h3
  obtain ⟨x4, rfl, q4⟩ := h4
  obtain ⟨x5, rfl, q5⟩ := h5
  obtain ⟨x6, rfl, q6⟩ := h6
  obtain ⟨l, rfl⟩ : ∃ l, x6 = bs l := ⟨_, bs_self x6⟩
  obtain ⟨u1, u2⟩ := u64_of q5
  obtain ⟨u, rfl⟩ : ∃ u : Nat, x5 = u := ⟨x5.toNat, by omega⟩
  rw [bs_size] at q6
  exact ⟨⟨x1, x2, x3, x4, u, l⟩, ⟨i64_of q1, i64_of q2, i64_of q3, i64_of q4, by show u < _; omega, q6⟩, rfl⟩
def gops (L : List GOp) : List Value := L.flatMap GOp.enc
theorem gops_arg {w : World} {n : Nat} {v : Value} (h : Leaf.ok w (n + 2) (.sl 6 [.int .i64, .int .i64, .int .i64, .int .i64, .int .u64, .str]) v) :
    ∃ A cap xs, v = .slice A (xs : List GOp).length cap ∧ xs.length ≤ maxLen ∧ (A = none → xs.length = 0 ∧ cap = 0) ∧ (∀ x ∈ xs, x.Ok) ∧ Rd w A (gops xs) := by
  obtain ⟨A, cap, xs, hv, h1, h2, h3⟩ := rows_list w (n + 1) 6 _ GOp.enc GOp.Ok (fun _ => rfl) dec_gop h
  obtain ⟨A', len', cap', hv', hlc, hcm, hn, _⟩ := h
  rw [hv] at hv'
  injection hv' with e1 e2 e3
  subst e1 e2 e3
  exact ⟨A, cap, xs, hv, h1, hn, h2, h3⟩
theorem rgop {w : World} {A : Option Addr} {xs : List GOp} (h : Rd w A (gops xs)) (j : Nat) (hj : j < xs.length) :
    ∃ b o s k t n m hh d, xs[j]? = some ⟨k, t, n, m, hh, d⟩ ∧ A = some ⟨b, o, s⟩ ∧ w.cell? ((⟨b, o, s⟩ : Addr).add (j * 6)) = some (.int .i64 k) ∧ w.cell? ⟨((⟨b, o, s⟩ : Addr).add (j * 6)).block, ((⟨b, o, s⟩ : Addr).add (j * 6)).off + 1, none⟩ = some (.int .i64 t) ∧
      w.cell? ⟨((⟨b, o, s⟩ : Addr).add (j * 6)).block, ((⟨b, o, s⟩ : Addr).add (j * 6)).off + 2, none⟩ = some (.int .i64 n) ∧ w.cell? ⟨((⟨b, o, s⟩ : Addr).add (j * 6)).block, ((⟨b, o, s⟩ : Addr).add (j * 6)).off + 3, none⟩ = some (.int .i64 m) ∧
      w.cell? ⟨((⟨b, o, s⟩ : Addr).add (j * 6)).block, ((⟨b, o, s⟩ : Addr).add (j * 6)).off + 4, none⟩ = some (.int .u64 (hh : Nat)) ∧ w.cell? ⟨((⟨b, o, s⟩ : Addr).add (j * 6)).block, ((⟨b, o, s⟩ : Addr).add (j * 6)).off + 5, none⟩ = some (.string (bs d)) := by
  have e := List.getElem?_eq_getElem hj
  have g := flatMap_get GOp.enc 6 (fun _ => rfl) xs j _ e
  obtain ⟨ad, rfl, h0⟩ := h _ _ (g 0 (by omega))
  obtain ⟨a1, q, h1⟩ := h _ _ (g 1 (by omega)); cases q
  obtain ⟨a1, q, h2⟩ := h _ _ (g 2 (by omega)); cases q
  obtain ⟨a1, q, h3⟩ := h _ _ (g 3 (by omega)); cases q
  obtain ⟨a1, q, h4⟩ := h _ _ (g 4 (by omega)); cases q
  obtain ⟨a1, q, h5⟩ := h _ _ (g 5 (by omega)); cases q
  exact ⟨_, _, _, _, _, _, _, _, _, e, rfl, h0, cell_field (by omega) h1, cell_field (by omega) h2, cell_field (by omega) h3, cell_field (by omega) h4, cell_field (by omega) h5⟩
end Go.Proofs.YtagmkkddjdlncaaDoor
