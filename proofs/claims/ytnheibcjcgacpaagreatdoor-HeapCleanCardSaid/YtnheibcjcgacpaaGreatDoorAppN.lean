/- 'append([]T{}, xs...)': many elements behind an own slice without any. -/
import Derived.Test.YtnheibcjcgacpaaGreatDoorRd
set_option linter.unusedVariables false
set_option linter.unusedSimpArgs false
namespace Go.Proofs.YtnheibcjcgacpaaGreatDoor
section
variable {P : Program}
theorem run_append_none (w : World) (t ty e : TypeId) (i : TypeInfo) (ht : P.underlying t = some (.slice e)) (hi : P.info? e = some i) (b : Option Addr) (cap : Nat) :
    (Builtin.append_ #[t, t] ty #[.slice b 0 cap, .slice none 0 0]).run P w = .ok (.slice b 0 cap) w := by
  cases b with
  | none => simp [Builtin.append_, run_underlying ht, sizeOf, typeInfo, hi, Builtin.lenOf, Builtin.firstCells]
  | some a => simp [Builtin.append_, run_underlying ht, sizeOf, typeInfo, hi, Builtin.lenOf, Builtin.firstCells, storeCells]
theorem wpList_appN {t e size bytes : Nat} (T : SlT P t e size bytes) (w : World) {ops : Array Oper} {rest : List Oper} {o : Oper} {a : Act} {Q : Exit → Act → World → Prop} (hgd : o.guard = none) (s x : Operand)
    (ho : o.op = .call { callee := .builtin .append, args := #[s, x], argTypes := #[t, t] }) (v : Value) (hs : a.eval s = v) (hown : Own w e size v 0 []) (A : Option Addr) (m c : Nat)
    (news : List Value) (hx : a.eval x = .slice A m c) (hA : A = none → m = 0 ∧ c = 0) (hl : news.length = m * size) (hr : Rd w A news) (h1 : ∀ u ∈ news, u.oneCell' = true) (h63 : m ≤ maxLen) (hbytes : m * bytes ≤ 140737488355328)
    (h : ∀ v' w', Own w' e size v' m news → Keeps (fun b => v.ownBlock = some b) w w' → (v'.ownBlock = v.ownBlock ∨ v'.ownBlock = some w.heap.size) → wpList P ops Q rest (a.put o.dst v') w') :
    wpList P ops Q (o :: rest) a w := by
  obtain ⟨i, z, hi, hz, h2, h3, h4⟩ := T.info
  cases A with
  | none =>
    obtain ⟨rfl, rfl⟩ := hA rfl
    obtain rfl : news = [] := List.eq_nil_of_length_eq_zero (by simpa using hl)
    refine wpList_plain hgd fun K hK => ?_
    obtain ⟨A2, cap2, hv, -⟩ := hown.shape
    have hr := run_append_none (P := P) w t o.type e i T.ht hi A2 cap2
    unfold Oper.wp execOp
    simp only [ho, resolve, invoke, builtin, Sem.run_bind, Sem.run_pure, Result.andThen_ok, List.map_toArray, List.map_cons, List.map_nil, hs, hx, hv, hr]
    exact hK _ _ (by rw [← hv]; exact h v w hown (Keeps.refl _ _) (.inl rfl))
  | some ad =>
    refine wpList_append_own_at w hgd s x t ho 0 e i z size bytes T.ht hi hz h2 h3 h4 T.pos v 0 [] hs hown ad m c news hx hl ?_ h1 (by omega) (by rw [Nat.zero_add]; exact hbytes) (Nat.zero_le _) ?_
    · intro j u hj
      obtain ⟨ad', e, hc⟩ := hr j u hj
      cases e; exact hc
    · intro v' w' hown' hg hnil hat
      rw [List.nil_append, Nat.zero_add] at hown'
      exact h v' w' hown' ⟨hg.os, hg.tape, hg.output, hg.size, fun b hb hf => hg.block b hb (fun e => hf e.symm)⟩ hat
/-- The same as an equation on the run (for regions with guards, where no 'wpList' stands). -/
theorem run_appN {t e size bytes : Nat} (T : SlT P t e size bytes) (w : World) (ty : TypeId) (v : Value) (hown : Own w e size v 0 []) (A : Option Addr) (m c : Nat)
    (news : List Value) (hA : A = none → m = 0 ∧ c = 0) (hl : news.length = m * size) (hr : Rd w A news) (h1 : ∀ u ∈ news, u.oneCell' = true) (h63 : m ≤ maxLen) (hbytes : m * bytes ≤ 140737488355328) :
    ∃ v' w', (Builtin.append_ #[t, t] ty #[v, .slice A m c]).run P w = .ok v' w' ∧ Own w' e size v' m news ∧ Keeps (fun b => v.ownBlock = some b) w w' ∧ (v'.ownBlock = v.ownBlock ∨ v'.ownBlock = some w.heap.size) := by
  obtain ⟨i, z, hi, hz, h2, h3, h4⟩ := T.info
  cases A with
  | none =>
    obtain ⟨rfl, rfl⟩ := hA rfl
    obtain rfl : news = [] := List.eq_nil_of_length_eq_zero (by simpa using hl)
    obtain ⟨A2, cap2, hv, -⟩ := hown.shape
    exact ⟨v, w, by rw [hv]; exact run_append_none (P := P) w t ty e i T.ht hi A2 cap2, hown, Keeps.refl _ _, .inl rfl⟩
  | some ad =>
    obtain ⟨v', w', hrun, r2, hg, hnil, hat⟩ := run_append_own_at (P := P) w 0 t ty e i z size bytes T.ht hi hz h2 h3 h4 T.pos v 0 [] hown ad m c news hl (fun j u hj => by
      obtain ⟨ad', e, hc⟩ := hr j u hj
      cases e; exact hc) h1 (by omega) (by rw [Nat.zero_add]; exact hbytes) (Nat.zero_le _)
    rw [List.nil_append, Nat.zero_add] at r2
    exact ⟨v', w', hrun, r2, ⟨hg.os, hg.tape, hg.output, hg.size, fun b hb hf => hg.block b hb (fun e => hf e.symm)⟩, hat⟩
theorem own_empty (w : World) (e size : Nat) : Own (w.alloc (.cells #[] e)) e size (.slice (some ⟨w.heap.size, 0, none⟩) 0 0) 0 [] :=
  ⟨by simp, .inr ⟨w.heap.size, 0, #[], rfl, Nat.zero_le _, alloc_new _ _, Nat.le_refl _, Nat.zero_le _, by simp, by simp⟩⟩
end
end Go.Proofs.YtnheibcjcgacpaaGreatDoor
