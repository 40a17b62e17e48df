/- Arguments that are plain data (numbers, bools, strings, structs and slices of these) opened by their type, once for all types: what their cells are. -/
import Derived.Test.YtnheibcjcgacpaaGreatDoorSlice
import Derived.ProofKit
import Derived.Deep.Slices
import Derived.DataElems
set_option linter.unusedVariables false
set_option linter.unusedSimpArgs false
namespace Go.Proofs.YtnheibcjcgacpaaGreatDoor
open Go.RowKit Go.ChangeMaps

inductive Leaf where
  | int (k : IntKind)
  | bool
  | str
  | sl (sz : Nat) (es : List Leaf)

inductive All2 {α β : Type} (R : α → β → Prop) : List α → List β → Prop where
  | nil : All2 R [] []
  | cons {a b as bs} : R a b → All2 R as bs → All2 R (a :: as) (b :: bs)
theorem All2.length {α β : Type} {R : α → β → Prop} {as : List α} {bs : List β} (h : All2 R as bs) : bs.length = as.length := by
  induction h with
  | nil => rfl
  | cons _ _ ih => simp [ih]
theorem All2.append {α β : Type} {R : α → β → Prop} {as cs : List α} {bs ds : List β} (h : All2 R as bs) (k : All2 R cs ds) : All2 R (as ++ cs) (bs ++ ds) := by
  induction h with
  | nil => exact k
  | cons h _ ih => exact .cons h ih
theorem All2.inv_cons {α β : Type} {R : α → β → Prop} {a : α} {as : List α} {bs : List β} (h : All2 R (a :: as) bs) : ∃ b bs', bs = b :: bs' ∧ R a b ∧ All2 R as bs' := by
  cases h with
  | cons h1 h2 => exact ⟨_, _, rfl, h1, h2⟩
theorem All2.inv_nil {α β : Type} {R : α → β → Prop} {bs : List β} (h : All2 R [] bs) : bs = [] := by cases h; rfl

/-- A value that fits a leaf, in a world (to a depth). -/
def Leaf.ok (w : World) : Nat → Leaf → Value → Prop
  | 0, _, _ => False
  | _ + 1, .int k, v => ∃ x, v = .int k x ∧ (Lit.int k x).wf = true
  | _ + 1, .bool, v => ∃ x, v = .bool x
  | _ + 1, .str, v => ∃ s, v = .string s ∧ s.size ≤ maxLen
  | n + 1, .sl sz es, v => ∃ A len cap, v = .slice A len cap ∧ len ≤ cap ∧ cap ≤ maxLen ∧ (A = none → len = 0 ∧ cap = 0) ∧
      ∀ i, i < len → ∃ ad cs, A = some ad ∧ All2 (Leaf.ok w n) es cs ∧ ∀ j u, cs[j]? = some u → w.cell? (ad.add (i * sz + j)) = some u

/-- A type's cells, flat. -/
def flat (P : Program) : Nat → TypeId → Option (List Leaf)
  | 0, _ => none
  | n + 1, t =>
    match P.underlying t with
    | some .bool => some [.bool]
    | some (.int k) => some [.int k]
    | some .string => some [.str]
    | some (.slice e) => (flat P n e).bind fun es => if es.length = P.cellsOf e then some [.sl (P.cellsOf e) es] else none
    | some (.struct fs) => (fs.toList.foldlM (fun acc f => (flat P n f.type).bind fun l => if f.offset = acc.length ∧ P.cellsOf f.type = l.length then some (acc ++ l) else none) []).bind fun l => if l.length = P.cellsOf t then some l else none
    | _ => none

theorem cells_get {w : World} {base : Nat} {a : Addr} {n : Nat} {cs : List Value} (h : w.cells? base a n = some cs) : ∀ j u, cs[j]? = some u → w.cell? (a.add j) = some u := by
  obtain ⟨_, hl, hj⟩ := World.cells?_some h
  intro j u hu
  have : j < n := by
    rw [← hl]
    exact (List.getElem?_eq_some_iff.1 hu).1
  rw [hj j this]; exact hu

section
variable {H : Type} {enc : TypeId × Value → H} {P : Program} {w : World} {base : Nat} {spare : Nat → Bool} {held : Bool}
theorem flat_fields (n d : Nat) (ih : ∀ (t : TypeId) (lv : List Leaf), flat P n t = some lv → ∀ (fuel : Nat) (cs : List Value) (x : DataW H × List MemPlace), DataW.trod enc P w base spare held fuel t cs = some x → All2 (Leaf.ok w n) lv cs)
    (cs : List Value) : ∀ (fs : List Field) (acc l : List Leaf), fs.foldlM (fun acc f => (flat P n f.type).bind fun l => if f.offset = acc.length ∧ P.cellsOf f.type = l.length then some (acc ++ l) else none) acc = some l →
      (∀ f ∈ fs, ∃ fuel x, DataW.trod enc P w base spare held fuel f.type ((cs.drop f.offset).take (P.cellsOf f.type)) = some x) → All2 (Leaf.ok w n) acc (cs.take acc.length) → l.length ≤ cs.length → All2 (Leaf.ok w n) l (cs.take l.length)
  | [], acc, l, h, _, ha, _ => by
    simp only [List.foldlM_nil, Option.pure_def, Option.some.injEq] at h
    subst h; exact ha
  | f :: fs, acc, l, h, hf, ha, hl => by
    simp only [List.foldlM_cons, Option.bind_eq_bind, Option.bind_eq_some_iff] at h
    obtain ⟨acc', ⟨lf, hlf, h1⟩, h2⟩ := h
    split at h1
    · rename_i hc
      cases h1
      obtain ⟨fuel, x, hx⟩ := hf f (by simp)
      have hf1 := ih _ _ hlf fuel _ x hx
      refine flat_fields n d ih cs fs (acc ++ lf) l h2 (fun g hg => hf g (by simp [hg])) ?_ hl
      have e : cs.take (acc ++ lf).length = cs.take acc.length ++ (cs.drop acc.length).take lf.length := by
        rw [List.length_append, List.take_add]
      rw [e]
      refine ha.append ?_
      rw [hc.1, hc.2] at hf1
      exact hf1
    · cases h1

theorem flat_ok : ∀ (n : Nat) (t : TypeId) (lv : List Leaf), flat P n t = some lv → ∀ (fuel : Nat) (cs : List Value) (x : DataW H × List MemPlace), DataW.trod enc P w base spare held fuel t cs = some x → All2 (Leaf.ok w n) lv cs
  | 0, _, _, h, _, _, _, _ => by cases h
  | n + 1, t, lv, h, fuel, cs, x, hx => by
    unfold flat at h
    split at h
    · rename_i ht
      cases h
      obtain ⟨b, rfl, _⟩ := DataW.trod_bool ht hx
      exact .cons ⟨b, rfl⟩ .nil
    · rename_i k ht
      cases h
      obtain ⟨b, rfl, _, hw⟩ := DataW.trod_int ht hx
      exact .cons ⟨b, rfl, hw⟩ .nil
    · rename_i ht
      cases h
      obtain ⟨s, rfl, _, hs⟩ := DataW.trod_string ht hx
      exact .cons ⟨s, rfl, hs⟩ .nil
    · rename_i e ht
      simp only [Option.bind_eq_some_iff] at h
      obtain ⟨es, hes, h1⟩ := h
      split at h1
      · rename_i hlen
        cases h1
        rcases Deep.open_slice ht hx with ⟨rfl, _⟩ | ⟨a, len, cap, m, n', D, Pl, rfl, hb, hl, hm, hmm, _, hi⟩
        · exact .cons ⟨none, 0, 0, rfl, Nat.le_refl _, Nat.zero_le _, fun _ => ⟨rfl, rfl⟩, fun i hi => by omega⟩ .nil
        · refine .cons ⟨some a, len, cap, rfl, hl, hm, (fun h => by cases h), fun i hi' => ?_⟩ .nil
          have him : i < m := by rw [hmm]; split <;> omega
          obtain ⟨cs', hc, ht'⟩ := hi i him
          refine ⟨a, cs', rfl, flat_ok n e es hes _ _ _ ht', fun j u hu => ?_⟩
          rw [← Addr.add_add]
          exact cells_get hc j u hu
      · cases h1
    · rename_i fs ht
      simp only [Option.bind_eq_some_iff] at h
      obtain ⟨l, hl, h1⟩ := h
      split at h1
      · rename_i hlen
        cases h1
        obtain ⟨xs, n', _, _, hcl, hxl, hf⟩ := DataW.trod_struct ht hx
        have := flat_fields (enc := enc) (base := base) (spare := spare) (held := held) n 0 (fun t lv h => flat_ok n t lv h) cs fs.toList [] lv hl ?_ (by simp; exact .nil) (by omega)
        · rw [List.take_of_length_le (by omega)] at this
          have mono : ∀ (as : List Leaf) (bs : List Value), All2 (Leaf.ok w n) as bs → All2 (Leaf.ok w (n + 1)) as bs := by
            intro as bs hab
            induction hab with
            | nil => exact .nil
            | cons h _ ih => exact .cons (okmono n _ _ h) ih
          exact mono _ _ this
        · intro f hfm
          obtain ⟨i, hi, rfl⟩ := List.getElem_of_mem hfm
          have hi' : i < fs.size := by simpa using hi
          have e1 := hf i fs[i] (by simp [hi'])
          have : i < xs.length := by omega
          rw [List.getElem?_eq_getElem this] at e1
          exact ⟨n', xs[i], by simpa using e1⟩
      · cases h1
    · cases h
where
  okmono : ∀ (n : Nat) (l : Leaf) (v : Value), Leaf.ok w n l v → Leaf.ok w (n + 1) l v
  | 0, _, _, h => h.elim
  | n + 1, .int k, v, h => h
  | n + 1, .bool, v, h => h
  | n + 1, .str, v, h => h
  | n + 1, .sl sz es, v, ⟨A, len, cap, h1, h2, h3, h4, h5⟩ => ⟨A, len, cap, h1, h2, h3, h4, fun i hi => by
      obtain ⟨ad, cs, e1, e2, e3⟩ := h5 i hi
      refine ⟨ad, cs, e1, ?_, e3⟩
      clear e3 h5
      induction e2 with
      | nil => exact .nil
      | cons h _ ih => exact .cons (okmono n _ _ h) ih⟩

/-- An argument of a struct type. -/
theorem open_flat {r : Reach} {b0 : Nat} {t : TypeId} {fs : Array Field} {v : Value} {d : DataW H} {p : List MemPlace} {lv : List Leaf} (hs : P.underlying t = some (.struct fs)) (hv : Value.okWide P w r b0 t v) (h : DataW.Trod enc P w base spare held t v d p)
    (n : Nat) (hf : flat P n t = some lv) : ∃ cs, v = .agg cs.toArray ∧ All2 (Leaf.ok w n) lv cs := by
  obtain ⟨cs, rfl, hsz⟩ := WideShapes.okWide_struct hs hv
  obtain ⟨fuel, hx⟩ := h
  exact ⟨cs.toList, by simp, flat_ok n t lv hf fuel _ _ hx⟩
/-- An argument of a slice type. -/
theorem open_rows {r : Reach} {b0 : Nat} {t e : TypeId} {v : Value} {d : DataW H} {p : List MemPlace} {l : Leaf} (hs : P.underlying t = some (.slice e)) (hv : Value.okWide P w r b0 t v) (h : DataW.Trod enc P w base spare held t v d p)
    (n : Nat) (hf : flat P n t = some [l]) : Leaf.ok w n l v := by
  obtain ⟨a, len, cap, rfl⟩ := WideShapes.okWide_slice hs hv
  obtain ⟨fuel, hx⟩ := h
  obtain ⟨b, bs, e1, e2, _⟩ := (flat_ok n t [l] hf fuel _ _ hx).inv_cons
  simp [Value.cells] at e1
  rw [e1.1]; exact e2
end

/-- A slice of records, read: the list of them, in Lean's own type. -/
theorem rows_list {α : Type} (w : World) (n sz : Nat) (es : List Leaf) (enc : α → List Value) (good : α → Prop) (hsz : ∀ x, (enc x).length = sz) (dec : ∀ cs, All2 (Leaf.ok w n) es cs → ∃ x, good x ∧ cs = enc x) {v : Value} (h : Leaf.ok w (n + 1) (.sl sz es) v) :
    ∃ A cap xs, v = .slice A (xs : List α).length cap ∧ xs.length ≤ maxLen ∧ (∀ x ∈ xs, good x) ∧ ∀ j u, (xs.flatMap enc)[j]? = some u → ∃ ad, A = some ad ∧ w.cell? (ad.add j) = some u := by
  obtain ⟨A, len, cap, rfl, hlc, hcm, hA, hr⟩ := h
  have key : ∀ m, m ≤ len → ∃ xs : List α, xs.length = m ∧ (∀ x ∈ xs, good x) ∧ ∀ j u, (xs.flatMap enc)[j]? = some u → ∃ ad, A = some ad ∧ w.cell? (ad.add j) = some u := by
    intro m
    induction m with
    | zero => exact fun _ => ⟨[], rfl, by simp, by simp⟩
    | succ m ih =>
      intro hm
      obtain ⟨xs, h1, h2, h3⟩ := ih (by omega)
      obtain ⟨ad, cs, rfl, h4, h5⟩ := hr m (by omega)
      obtain ⟨x, hx, rfl⟩ := dec cs h4
      refine ⟨xs ++ [x], by simp [h1], ?_, ?_⟩
      · intro y hy
        rcases List.mem_append.1 hy with hy | hy
        · exact h2 y hy
        · simp only [List.mem_singleton] at hy; subst hy; exact hx
      · intro j u hu
        have hfl : (xs.flatMap enc).length = m * sz := by
          rw [← h1]
          clear h1 h2 h3 hu
          induction xs with
          | nil => simp
          | cons y ys ih => simp only [List.flatMap_cons, List.length_append, ih, hsz, List.length_cons]; rw [Nat.add_mul]; omega
        rw [List.flatMap_append, List.getElem?_append] at hu
        split at hu
        · exact h3 j u hu
        · rename_i hj
          have hj' : m * sz ≤ j := by omega
          simp only [List.flatMap_cons, List.flatMap_nil, List.append_nil] at hu
          rw [hfl] at hu
          refine ⟨ad, rfl, ?_⟩
          have := h5 (j - m * sz) u hu
          rwa [show m * sz + (j - m * sz) = j by omega] at this
  obtain ⟨xs, h1, h2, h3⟩ := key len (Nat.le_refl _)
  subst h1
  exact ⟨A, cap, xs, rfl, by omega, h2, h3⟩

theorem flatMap_get {α : Type} (enc : α → List Value) (sz : Nat) (hsz : ∀ x, (enc x).length = sz) : ∀ (xs : List α) (j : Nat) (x : α), xs[j]? = some x → ∀ i, i < sz → (xs.flatMap enc)[j * sz + i]? = (enc x)[i]?
  | [], j, x, h, _, _ => by simp at h
  | y :: ys, 0, x, h, i, hi => by
    simp only [List.getElem?_cons_zero, Option.some.injEq] at h
    subst h
    rw [List.flatMap_cons, Nat.zero_mul, Nat.zero_add, List.getElem?_append_left (by rw [hsz]; exact hi)]
  | y :: ys, j + 1, x, h, i, hi => by
    simp only [List.getElem?_cons_succ] at h
    rw [List.flatMap_cons, List.getElem?_append_right (by rw [hsz, Nat.add_mul]; omega), hsz]
    rw [show (j + 1) * sz + i - sz = j * sz + i by rw [Nat.add_mul]; omega]
    exact flatMap_get enc sz hsz ys j x h i hi
theorem cell_field {w : World} {a : Addr} {n j : Nat} {v : Value} (hj : 0 < j) (h : w.cell? (a.add (n + j)) = some v) : w.cell? ⟨(a.add n).block, (a.add n).off + j, none⟩ = some v := by
  rw [← Addr.add_add] at h
  unfold Addr.add at h ⊢
  rw [if_neg (by omega)] at h
  exact h
end Go.Proofs.YtnheibcjcgacpaaGreatDoor
