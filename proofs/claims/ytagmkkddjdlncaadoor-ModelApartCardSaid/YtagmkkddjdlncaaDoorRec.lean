/- Operations and answers (api.Op, api.Answer): their cells, their equality. -/
import Derived.Test.YtagmkkddjdlncaaDoorRd
import Derived.Test.YtagmkkddjdlncaaDoorArgs
import Derived.Test.YtagmkkddjdlncaaDoorOut
import Derived.Laws.StructEq
set_option linter.unusedVariables false
set_option linter.unusedSimpArgs false
namespace Go.Proofs.YtagmkkddjdlncaaDoor
open Go.RowKit Go.ChangeMaps
structure XOp where
  kind : Int
  tenant : Int
  n : Int
  m : Int
  handle : Int
  data : ByteArray
deriving DecidableEq
def XOp.enc (o : XOp) : List Value := [.int .i64 o.kind, .int .i64 o.tenant, .int .i64 o.n, .int .i64 o.m, .int .u64 o.handle, .string o.data]
structure XAns where
  err : Int
  handle : Int
  addr : Int
  n : Int
  data : ByteArray
  charged : Int
deriving DecidableEq
def XAns.enc (o : XAns) : List Value := [.int .i64 o.err, .int .u64 o.handle, .int .i64 o.addr, .int .i64 o.n, .string o.data, .int .i64 o.charged]

def ops (L : List XOp) : List Value := L.flatMap XOp.enc
def anss (L : List XAns) : List Value := L.flatMap XAns.enc
theorem slOps : SlT Tryd.prog 24 34 6 56 := SlT.mk' (z := .agg #[.int .i64 0, .int .i64 0, .int .i64 0, .int .i64 0, .int .u64 0, .string ⟨#[]⟩]) Tryd.underlying24 (by kernel_rfl) rfl (by decide)
theorem slAns : SlT Tryd.prog 45 36 6 56 := SlT.mk' (z := .agg #[.int .i64 0, .int .u64 0, .int .i64 0, .int .i64 0, .string ⟨#[]⟩, .int .i64 0]) Tryd.underlying45 (by kernel_rfl) rfl (by decide)
theorem rop {w : World} {A : Option Addr} {xs : List XOp} (h : Rd w A (ops xs)) (j : Nat) (hj : j < xs.length) :
    ∃ b o s k t n m hh d, xs[j]? = some ⟨k, t, n, m, hh, d⟩ ∧ A = some ⟨b, o, s⟩ ∧ w.cell? ((⟨b, o, s⟩ : Addr).add (j * 6)) = some (.int .i64 k) ∧ w.cell? ⟨((⟨b, o, s⟩ : Addr).add (j * 6)).block, ((⟨b, o, s⟩ : Addr).add (j * 6)).off + 1, none⟩ = some (.int .i64 t) ∧
      w.cell? ⟨((⟨b, o, s⟩ : Addr).add (j * 6)).block, ((⟨b, o, s⟩ : Addr).add (j * 6)).off + 2, none⟩ = some (.int .i64 n) ∧ w.cell? ⟨((⟨b, o, s⟩ : Addr).add (j * 6)).block, ((⟨b, o, s⟩ : Addr).add (j * 6)).off + 3, none⟩ = some (.int .i64 m) ∧
      w.cell? ⟨((⟨b, o, s⟩ : Addr).add (j * 6)).block, ((⟨b, o, s⟩ : Addr).add (j * 6)).off + 4, none⟩ = some (.int .u64 hh) ∧ w.cell? ⟨((⟨b, o, s⟩ : Addr).add (j * 6)).block, ((⟨b, o, s⟩ : Addr).add (j * 6)).off + 5, none⟩ = some (.string d) := by
  have e := List.getElem?_eq_getElem hj
  have g := flatMap_get XOp.enc 6 (fun _ => rfl) xs j _ e
  obtain ⟨ad, rfl, h0⟩ := h _ _ (g 0 (by omega))
  obtain ⟨a1, q, h1⟩ := h _ _ (g 1 (by omega)); cases q
  obtain ⟨a1, q, h2⟩ := h _ _ (g 2 (by omega)); cases q
  obtain ⟨a1, q, h3⟩ := h _ _ (g 3 (by omega)); cases q
  obtain ⟨a1, q, h4⟩ := h _ _ (g 4 (by omega)); cases q
  obtain ⟨a1, q, h5⟩ := h _ _ (g 5 (by omega)); cases q
  exact ⟨_, _, _, _, _, _, _, _, _, e, rfl, h0, cell_field (by omega) h1, cell_field (by omega) h2, cell_field (by omega) h3, cell_field (by omega) h4, cell_field (by omega) h5⟩
theorem rans {w : World} {A : Option Addr} {xs : List XAns} (h : Rd w A (anss xs)) (j : Nat) (hj : j < xs.length) :
    ∃ b o s k t n m d hh, xs[j]? = some ⟨k, t, n, m, d, hh⟩ ∧ A = some ⟨b, o, s⟩ ∧ w.cell? ((⟨b, o, s⟩ : Addr).add (j * 6)) = some (.int .i64 k) ∧ w.cell? ⟨((⟨b, o, s⟩ : Addr).add (j * 6)).block, ((⟨b, o, s⟩ : Addr).add (j * 6)).off + 1, none⟩ = some (.int .u64 t) ∧
      w.cell? ⟨((⟨b, o, s⟩ : Addr).add (j * 6)).block, ((⟨b, o, s⟩ : Addr).add (j * 6)).off + 2, none⟩ = some (.int .i64 n) ∧ w.cell? ⟨((⟨b, o, s⟩ : Addr).add (j * 6)).block, ((⟨b, o, s⟩ : Addr).add (j * 6)).off + 3, none⟩ = some (.int .i64 m) ∧
      w.cell? ⟨((⟨b, o, s⟩ : Addr).add (j * 6)).block, ((⟨b, o, s⟩ : Addr).add (j * 6)).off + 4, none⟩ = some (.string d) ∧ w.cell? ⟨((⟨b, o, s⟩ : Addr).add (j * 6)).block, ((⟨b, o, s⟩ : Addr).add (j * 6)).off + 5, none⟩ = some (.int .i64 hh) := by
  have e := List.getElem?_eq_getElem hj
  have g := flatMap_get XAns.enc 6 (fun _ => rfl) xs j _ e
  obtain ⟨ad, rfl, h0⟩ := h _ _ (g 0 (by omega))
  obtain ⟨a1, q, h1⟩ := h _ _ (g 1 (by omega)); cases q
  obtain ⟨a1, q, h2⟩ := h _ _ (g 2 (by omega)); cases q
  obtain ⟨a1, q, h3⟩ := h _ _ (g 3 (by omega)); cases q
  obtain ⟨a1, q, h4⟩ := h _ _ (g 4 (by omega)); cases q
  obtain ⟨a1, q, h5⟩ := h _ _ (g 5 (by omega)); cases q
  exact ⟨_, _, _, _, _, _, _, _, _, e, rfl, h0, cell_field (by omega) h1, cell_field (by omega) h2, cell_field (by omega) h3, cell_field (by omega) h4, cell_field (by omega) h5⟩
theorem take_get {α : Type} {xs : List α} {j : Nat} {x : α} (h : xs[j]? = some x) : xs.take (j + 1) = xs.take j ++ [x] := by rw [List.take_add_one, h]; rfl

theorem beq_bytes (a b : ByteArray) : (a.toList == b.toList) = decide (a = b) := by
  rw [ByteArray.toList_eq, ByteArray.toList_eq]
  obtain ⟨⟨x⟩⟩ := a
  obtain ⟨⟨y⟩⟩ := b
  rw [Bool.eq_iff_iff]; simp

section
variable {P : Program} {d : Nat} {xs ys : Array Value} {f : Field} {fs : List Field} {a b : Value} {r s : Bool} {w : World}
theorem eqf_step (hn : (f.name == "_") = false) (ha : (part f.type xs f.offset).run P w = .ok a w) (hb : (part f.type ys f.offset).run P w = .ok b w) (he : (Op.equalIn d f.type a b).run P w = .ok r w) (hr : (Op.eqFields d xs ys fs).run P w = .ok s w) : (Op.eqFields d xs ys (f :: fs)).run P w = .ok (r && s) w := by
  have hn' : f.name ≠ "_" := by simpa using hn
  rw [Op.eqFields]
  simp only [if_pos hn', Sem.run_bind, ha, hb, he, Result.andThen_ok]
  cases r
  · simp
  · simpa using hr
theorem eqf_none : (Op.eqFields d xs ys []).run P w = .ok true w := by simp [Op.eqFields]
theorem eq_of_fields {t : TypeId} {fs : Array Field} (hu : P.underlying t = some (.struct fs)) (hp : P.stoodInHeld t = false) (h : (Op.eqFields d xs ys fs.toList).run P w = .ok r w) : (Op.equalIn (d + 1) t (.agg xs) (.agg ys)).run P w = .ok r w := by
  have hf : P.fieldsOf t = fs := by simp [Program.fieldsOf, hu]
  rw [run_equalIn_struct (P := P) w d t xs ys (by rw [hf]; exact hu) hp, hf]
  exact h
theorem eqI_of {t : TypeId} {k q : IntKind} {x y : Int} (hu : P.underlying t = some (.int q)) : (Op.equalIn (d + 1) t (.int k x) (.int k y)).run P w = .ok (x == y) w := run_equalIn_int w d t k q x y hu
theorem eqS_of {t : TypeId} {x y : ByteArray} (hu : P.underlying t = some .string) : (Op.equalIn (d + 1) t (.string x) (.string y)).run P w = .ok (x.toList == y.toList) w := run_equalIn_string w d t x y hu
end

set_option maxRecDepth 100000 in
set_option maxHeartbeats 1000000 in
theorem eq_op (e : Nat) (w : World) (k t n m h k' t' n' m' h' : Int) (d d' : ByteArray) :
    (Op.equalIn (e + 2) 34 (.agg #[.int .i64 k, .int .i64 t, .int .i64 n, .int .i64 m, .int .u64 h, .string d]) (.agg #[.int .i64 k', .int .i64 t', .int .i64 n', .int .i64 m', .int .u64 h', .string d'])).run Tryd.prog w =
      .ok (decide ((⟨k, t, n, m, h, d⟩ : XOp) = ⟨k', t', n', m', h', d'⟩)) w := by
  have hd : decide ((⟨k, t, n, m, h, d⟩ : XOp) = ⟨k', t', n', m', h', d'⟩) = ((k == k') && ((t == t') && ((n == n') && ((m == m') && ((h == h') && ((d.toList == d'.toList) && true)))))) := by
    rw [beq_bytes, Bool.eq_iff_iff]; simp
  rw [hd]
  refine eq_of_fields Tryd.underlying34 (by kernel_rfl) ?_
  refine eqf_step (by decide) (by kernel_rfl) (by kernel_rfl) (eqI_of (k := .i64) Tryd.underlying3) ?_
  refine eqf_step (by decide) (by kernel_rfl) (by kernel_rfl) (eqI_of (k := .i64) Tryd.underlying3) ?_
  refine eqf_step (by decide) (by kernel_rfl) (by kernel_rfl) (eqI_of (k := .i64) Tryd.underlying3) ?_
  refine eqf_step (by decide) (by kernel_rfl) (by kernel_rfl) (eqI_of (k := .i64) Tryd.underlying3) ?_
  refine eqf_step (by decide) (by kernel_rfl) (by kernel_rfl) (eqI_of (k := .u64) Tryd.underlying32) ?_
  refine eqf_step (by decide) (by kernel_rfl) (by kernel_rfl) (eqS_of Tryd.underlying9) ?_
  exact eqf_none
set_option maxRecDepth 100000 in
set_option maxHeartbeats 1000000 in
theorem eq_ans (e : Nat) (w : World) (k t n m h k' t' n' m' h' : Int) (d d' : ByteArray) :
    (Op.equalIn (e + 2) 36 (.agg #[.int .i64 k, .int .u64 t, .int .i64 n, .int .i64 m, .string d, .int .i64 h]) (.agg #[.int .i64 k', .int .u64 t', .int .i64 n', .int .i64 m', .string d', .int .i64 h'])).run Tryd.prog w =
      .ok (decide ((⟨k, t, n, m, d, h⟩ : XAns) = ⟨k', t', n', m', d', h'⟩)) w := by
  have hd : decide ((⟨k, t, n, m, d, h⟩ : XAns) = ⟨k', t', n', m', d', h'⟩) = ((k == k') && ((t == t') && ((n == n') && ((m == m') && ((d.toList == d'.toList) && ((h == h') && true)))))) := by
    rw [beq_bytes, Bool.eq_iff_iff]; simp
  rw [hd]
  refine eq_of_fields Tryd.underlying36 (by kernel_rfl) ?_
  refine eqf_step (by decide) (by kernel_rfl) (by kernel_rfl) (eqI_of (k := .i64) Tryd.underlying27) ?_
  refine eqf_step (by decide) (by kernel_rfl) (by kernel_rfl) (eqI_of (k := .u64) Tryd.underlying32) ?_
  refine eqf_step (by decide) (by kernel_rfl) (by kernel_rfl) (eqI_of (k := .i64) Tryd.underlying3) ?_
  refine eqf_step (by decide) (by kernel_rfl) (by kernel_rfl) (eqI_of (k := .i64) Tryd.underlying3) ?_
  refine eqf_step (by decide) (by kernel_rfl) (by kernel_rfl) (eqS_of Tryd.underlying9) ?_
  refine eqf_step (by decide) (by kernel_rfl) (by kernel_rfl) (eqI_of (k := .i64) Tryd.underlying3) ?_
  exact eqf_none
/-- Are these two the same operation, the same answer? (A name of their own: the walk's simp must not part them.) -/
def opEq (k t n m h : Int) (d : ByteArray) (k' t' n' m' h' : Int) (d' : ByteArray) : Bool := decide ((⟨k, t, n, m, h, d⟩ : XOp) = ⟨k', t', n', m', h', d'⟩)
def ansEq (k t n m : Int) (d : ByteArray) (h : Int) (k' t' n' m' : Int) (d' : ByteArray) (h' : Int) : Bool := decide ((⟨k, t, n, m, d, h⟩ : XAns) = ⟨k', t', n', m', d', h'⟩)
theorem neq_op (w : World) (k t n m h k' t' n' m' h' : Int) (d d' : ByteArray) :
    (binOp .neq 34 (.agg #[.int .i64 k, .int .i64 t, .int .i64 n, .int .i64 m, .int .u64 h, .string d]) (.agg #[.int .i64 k', .int .i64 t', .int .i64 n', .int .i64 m', .int .u64 h', .string d'])).run Tryd.prog w =
      .ok (.bool (!opEq k t n m h d k' t' n' m' h' d')) w := by
  rw [run_neq_struct, eq_op]; rfl
theorem eql_op (w : World) (k t n m h k' t' n' m' h' : Int) (d d' : ByteArray) :
    (binOp .eql 34 (.agg #[.int .i64 k, .int .i64 t, .int .i64 n, .int .i64 m, .int .u64 h, .string d]) (.agg #[.int .i64 k', .int .i64 t', .int .i64 n', .int .i64 m', .int .u64 h', .string d'])).run Tryd.prog w =
      .ok (.bool (opEq k t n m h d k' t' n' m' h' d')) w := by
  rw [run_eql_struct, eq_op]; rfl
theorem neq_ans (w : World) (k t n m h k' t' n' m' h' : Int) (d d' : ByteArray) :
    (binOp .neq 36 (.agg #[.int .i64 k, .int .u64 t, .int .i64 n, .int .i64 m, .string d, .int .i64 h]) (.agg #[.int .i64 k', .int .u64 t', .int .i64 n', .int .i64 m', .string d', .int .i64 h'])).run Tryd.prog w =
      .ok (.bool (!ansEq k t n m d h k' t' n' m' d' h')) w := by
  rw [run_neq_struct, eq_ans]; rfl
end Go.Proofs.YtagmkkddjdlncaaDoor
