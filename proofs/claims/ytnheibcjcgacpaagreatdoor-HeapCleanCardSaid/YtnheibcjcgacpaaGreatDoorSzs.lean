/- Arguments with their sizes: what the reach says of the lengths of rows. -/
import Derived.Test.YtnheibcjcgacpaaGreatDoorArgs
import Derived.SizedLaws
set_option linter.unusedVariables false
set_option linter.unusedSimpArgs false
namespace Go.Proofs.YtnheibcjcgacpaaGreatDoor
open Go.RowKit Go.ChangeMaps
/-- As Leaf.ok, and no row is longer than memory lets. -/
def Leaf.okZ (w : World) : Nat → Leaf → Value → Prop
  | 0, _, _ => False
  | _ + 1, .int k, v => ∃ x, v = .int k x ∧ (Lit.int k x).wf = true
  | _ + 1, .bool, v => ∃ x, v = .bool x
  | _ + 1, .str, v => ∃ s, v = .string s ∧ s.size ≤ maxLen
  | n + 1, .sl sz es, v => ∃ A len cap, v = .slice A len cap ∧ len ≤ cap ∧ cap ≤ maxLen ∧ (A = none → len = 0 ∧ cap = 0) ∧ len ≤ 17592186044416 ∧
      ∀ i, i < len → ∃ ad cs, A = some ad ∧ All2 (Leaf.okZ w n) es cs ∧ ∀ j u, cs[j]? = some u → w.cell? (ad.add (i * sz + j)) = some u
/-- Rows of at least eight bytes each. -/
def okT (P : Program) : Nat → TypeId → Bool
  | 0, _ => true
  | n + 1, t => match P.underlying t with
    | some (.slice e) => decide (8 ≤ P.bytesOf e) && okT P n e
    | some (.struct fs) => fs.toList.all (fun f => okT P n f.type)
    | _ => true
theorem weightsAll_mem {H : Type} {P : Program} {e : TypeId} {d : DataW H} {q : Nat} : ∀ {l : List (DataW H)}, d ∈ l → q ∈ d.weights P e → q ∈ DataW.weightsAll P e l
  | [], h, _ => by cases h
  | x :: l, h, hq => by
    simp only [DataW.weightsAll, List.mem_append]
    rcases List.mem_cons.1 h with rfl | h
    · exact .inl hq
    · exact .inr (weightsAll_mem h hq)
section
variable {H : Type} {enc : TypeId × Value → H} {P : Program} {w : World} {base : Nat} {spare : Nat → Bool} {held : Bool}
theorem flatz_fields (n d : Nat) (ih : ∀ (t : TypeId) (lv : List Leaf), flat P n t = some lv → okT P n t = true → ∀ (fuel : Nat) (cs : List Value) (x : DataW H × List MemPlace), DataW.trod enc P w base spare held fuel t cs = some x → (∀ m ∈ x.1.weights P t, m ≤ reachBytes) → All2 (Leaf.okZ w n) lv cs)
    (cs : List Value) : ∀ (fs : List Field) (acc l : List Leaf), fs.foldlM (fun acc f => (flat P n f.type).bind fun l => if f.offset = acc.length ∧ P.cellsOf f.type = l.length then some (acc ++ l) else none) acc = some l →
      (∀ f ∈ fs, ∃ fuel x, DataW.trod enc P w base spare held fuel f.type ((cs.drop f.offset).take (P.cellsOf f.type)) = some x ∧ okT P n f.type = true ∧ ∀ m ∈ x.1.weights P f.type, m ≤ reachBytes) → All2 (Leaf.okZ w n) acc (cs.take acc.length) → l.length ≤ cs.length → All2 (Leaf.okZ w n) l (cs.take l.length)
  | [], acc, l, h, _, ha, _ => by
    simp only [List.foldlM_nil, Option.pure_def, Option.some.injEq] at h
    subst h; exact ha
  | f :: fs, acc, l, h, hf, ha, hl => by
    simp only [List.foldlM_cons, Option.bind_eq_bind, Option.bind_eq_some_iff] at h
    obtain ⟨acc', ⟨lf, hlf, h1⟩, h2⟩ := h
    split at h1
    · rename_i hc
      cases h1
      obtain ⟨fuel, x, hx, hk, hw⟩ := hf f (by simp)
      have hf1 := ih _ _ hlf hk fuel _ x hx hw
      refine flatz_fields n d ih cs fs (acc ++ lf) l h2 (fun g hg => hf g (by simp [hg])) ?_ hl
      have e : cs.take (acc ++ lf).length = cs.take acc.length ++ (cs.drop acc.length).take lf.length := by
        rw [List.length_append, List.take_add]
      rw [e]
      refine ha.append ?_
      rw [hc.1, hc.2] at hf1
      exact hf1
    · cases h1

theorem flatz_ok : ∀ (n : Nat) (t : TypeId) (lv : List Leaf), flat P n t = some lv → okT P n t = true → ∀ (fuel : Nat) (cs : List Value) (x : DataW H × List MemPlace), DataW.trod enc P w base spare held fuel t cs = some x → (∀ m ∈ x.1.weights P t, m ≤ reachBytes) → All2 (Leaf.okZ w n) lv cs
  | 0, _, _, h, _, _, _, _, _, _ => by cases h
  | n + 1, t, lv, h, hk, fuel, cs, x, hx, hw' => by
    unfold flat at h
    split at h
    · rename_i ht
      cases h
      obtain ⟨b, rfl, _⟩ := DataW.trod_bool ht hx
      exact .cons ⟨b, rfl⟩ .nil
    · rename_i k ht
      cases h
      obtain ⟨b, rfl, _, hw⟩ := DataW.trod_int ht hx
      exact .cons ⟨b, rfl, hw⟩ .nil
    · rename_i ht
      cases h
      obtain ⟨s, rfl, _, hs⟩ := DataW.trod_string ht hx
      exact .cons ⟨s, rfl, hs⟩ .nil
    · rename_i e ht
      simp only [Option.bind_eq_some_iff] at h
      obtain ⟨es, hes, h1⟩ := h
      split at h1
      · rename_i hlen
        cases h1
        rcases Deep.open_slice ht hx with ⟨rfl, _⟩ | ⟨a, len, cap, m, n', D, Pl, rfl, hb, hl, hm, hmm, hxe, hi⟩
        · exact .cons ⟨none, 0, 0, rfl, Nat.le_refl _, Nat.zero_le _, fun _ => ⟨rfl, rfl⟩, Nat.zero_le _, fun i hi => by omega⟩ .nil
        · have hk1 : 8 ≤ P.bytesOf e ∧ okT P n e = true := by
            unfold okT at hk
            rw [ht] at hk
            simpa using hk
          subst hxe
          have hwl : (len + (m - len)) * P.bytesOf e ≤ reachBytes := hw' _ (by simp [DataW.weights, ht])
          have hlen8 : len * 8 ≤ reachBytes := Nat.le_trans (Nat.mul_le_mul (by omega) hk1.1) hwl
          have hM : len ≤ 17592186044416 := by unfold reachBytes at hlen8; omega
          refine .cons ⟨some a, len, cap, rfl, hl, hm, (fun h => by cases h), hM, fun i hi' => ?_⟩ .nil
          have him : i < m := by rw [hmm]; split <;> omega
          obtain ⟨cs', hc, ht'⟩ := hi i him
          have hwi : ∀ q ∈ (D i).weights P e, q ≤ reachBytes := fun q hq => hw' q (by
            simp only [DataW.weights, ht, List.mem_cons, List.mem_append]
            exact .inr (.inl (weightsAll_mem (List.mem_map.2 ⟨i, List.mem_range.2 hi', rfl⟩) hq)))
          refine ⟨a, cs', rfl, flatz_ok n e es hes hk1.2 _ _ _ ht' hwi, fun j u hu => ?_⟩
          rw [← Addr.add_add]
          exact cells_get hc j u hu
      · cases h1
    · rename_i fs ht
      simp only [Option.bind_eq_some_iff] at h
      obtain ⟨l, hl, h1⟩ := h
      split at h1
      · rename_i hlen
        cases h1
        obtain ⟨xs, n', _, hxe, hcl, hxl, hf⟩ := DataW.trod_struct ht hx
        have := flatz_fields (enc := enc) (base := base) (spare := spare) (held := held) n 0 (fun t lv h hk => flatz_ok n t lv h hk) cs fs.toList [] lv hl ?_ (by simp; exact .nil) (by omega)
        · rw [List.take_of_length_le (by omega)] at this
          have mono : ∀ (as : List Leaf) (bs : List Value), All2 (Leaf.okZ w n) as bs → All2 (Leaf.okZ w (n + 1)) as bs := by
            intro as bs hab
            induction hab with
            | nil => exact .nil
            | cons h _ ih => exact .cons (okmono n _ _ h) ih
          exact mono _ _ this
        · intro f hfm
          obtain ⟨i, hi, rfl⟩ := List.getElem_of_mem hfm
          have hi' : i < fs.size := by simpa using hi
          have e1 := hf i fs[i] (by simp [hi'])
          have : i < xs.length := by omega
          rw [List.getElem?_eq_getElem this] at e1
          have hk1 : okT P n fs[i].type = true := by
            unfold okT at hk
            rw [ht] at hk
            exact List.all_eq_true.1 hk _ hfm
          refine ⟨n', xs[i], by simpa using e1, by simpa using hk1, fun q hq => hw' q ?_⟩
          subst hxe
          simp only [DataW.weights, ht]
          refine DataW.weights_mem_each (j := i) (t := fs[i].type) (d := xs[i].1) (by simp [hi']) (by simp [this]) q (by simpa using hq)
      · cases h1
    · cases h
where
  okmono : ∀ (n : Nat) (l : Leaf) (v : Value), Leaf.okZ w n l v → Leaf.okZ w (n + 1) l v
  | 0, _, _, h => h.elim
  | n + 1, .int k, v, h => h
  | n + 1, .bool, v, h => h
  | n + 1, .str, v, h => h
  | n + 1, .sl sz es, v, ⟨A, len, cap, h1, h2, h3, h4, h6, h5⟩ => ⟨A, len, cap, h1, h2, h3, h4, h6, fun i hi => by
      obtain ⟨ad, cs, e1, e2, e3⟩ := h5 i hi
      refine ⟨ad, cs, e1, ?_, e3⟩
      clear e3 h5
      induction e2 with
      | nil => exact .nil
      | cons h _ ih => exact .cons (okmono n _ _ h) ih⟩

theorem open_flatZ {r : Reach} {b0 : Nat} {t : TypeId} {fs : Array Field} {v : Value} {d : DataW H} {p : List MemPlace} {lv : List Leaf} (hs : P.underlying t = some (.struct fs)) (hv : Value.okWide P w r b0 t v) (h : DataW.Trod enc P w base spare held t v d p)
    (n : Nat) (hf : flat P n t = some lv) (hk : okT P n t = true) (hz : ∀ q ∈ d.weights P t, q ≤ reachBytes) : ∃ cs, v = .agg cs.toArray ∧ All2 (Leaf.okZ w n) lv cs := by
  obtain ⟨cs, rfl, hsz⟩ := WideShapes.okWide_struct hs hv
  obtain ⟨fuel, hx⟩ := h
  exact ⟨cs.toList, by simp, flatz_ok n t lv hf hk fuel _ _ hx hz⟩
/-- An argument of a slice type. -/
theorem open_rowsZ {r : Reach} {b0 : Nat} {t e : TypeId} {v : Value} {d : DataW H} {p : List MemPlace} {l : Leaf} (hs : P.underlying t = some (.slice e)) (hv : Value.okWide P w r b0 t v) (h : DataW.Trod enc P w base spare held t v d p)
    (n : Nat) (hf : flat P n t = some [l]) (hk : okT P n t = true) (hz : ∀ q ∈ d.weights P t, q ≤ reachBytes) : Leaf.okZ w n l v := by
  obtain ⟨a, len, cap, rfl⟩ := WideShapes.okWide_slice hs hv
  obtain ⟨fuel, hx⟩ := h
  obtain ⟨b, bs, e1, e2, _⟩ := (flatz_ok n t [l] hf hk fuel _ _ hx hz).inv_cons
  simp [Value.cells] at e1
  rw [e1.1]; exact e2
end
theorem rows_listZ {α : Type} (w : World) (n sz : Nat) (es : List Leaf) (enc : α → List Value) (good : α → Prop) (hsz : ∀ x, (enc x).length = sz) (dec : ∀ cs, All2 (Leaf.okZ w n) es cs → ∃ x, good x ∧ cs = enc x) {v : Value} (h : Leaf.okZ w (n + 1) (.sl sz es) v) :
    ∃ A cap xs, v = .slice A (xs : List α).length cap ∧ xs.length ≤ maxLen ∧ xs.length ≤ 17592186044416 ∧ (A = none → xs.length = 0 ∧ cap = 0) ∧ (∀ x ∈ xs, good x) ∧ ∀ j u, (xs.flatMap enc)[j]? = some u → ∃ ad, A = some ad ∧ w.cell? (ad.add j) = some u := by
  obtain ⟨A, len, cap, rfl, hlc, hcm, hA, hM, hr⟩ := h
  have key : ∀ m, m ≤ len → ∃ xs : List α, xs.length = m ∧ (∀ x ∈ xs, good x) ∧ ∀ j u, (xs.flatMap enc)[j]? = some u → ∃ ad, A = some ad ∧ w.cell? (ad.add j) = some u := by
    intro m
    induction m with
    | zero => exact fun _ => ⟨[], rfl, by simp, by simp⟩
    | succ m ih =>
      intro hm
      obtain ⟨xs, h1, h2, h3⟩ := ih (by omega)
      obtain ⟨ad, cs, rfl, h4, h5⟩ := hr m (by omega)
      obtain ⟨x, hx, rfl⟩ := dec cs h4
      refine ⟨xs ++ [x], by simp [h1], ?_, ?_⟩
      · intro y hy
        rcases List.mem_append.1 hy with hy | hy
        · exact h2 y hy
        · simp only [List.mem_singleton] at hy; subst hy; exact hx
      · intro j u hu
        have hfl : (xs.flatMap enc).length = m * sz := by
          rw [← h1]
          clear h1 h2 h3 hu
          induction xs with
          | nil => simp
          | cons y ys ih => simp only [List.flatMap_cons, List.length_append, ih, hsz, List.length_cons]; rw [Nat.add_mul]; omega
        rw [List.flatMap_append, List.getElem?_append] at hu
        split at hu
        · exact h3 j u hu
        · rename_i hj
          have hj' : m * sz ≤ j := by omega
          simp only [List.flatMap_cons, List.flatMap_nil, List.append_nil] at hu
          rw [hfl] at hu
          refine ⟨ad, rfl, ?_⟩
          have := h5 (j - m * sz) u hu
          rwa [show m * sz + (j - m * sz) = j by omega] at this
  obtain ⟨xs, h1, h2, h3⟩ := key len (Nat.le_refl _)
  subst h1
  exact ⟨A, cap, xs, rfl, by omega, hM, hA, h2, h3⟩

end Go.Proofs.YtnheibcjcgacpaaGreatDoor
