/- Appends: laws for a walk and for a region that draws its order. -/
import Derived.Test.YtnheibcjcgacpaaGreatDoorAppN
import Derived.Test.YtnheibcjcgacpaaGreatDoorStep
set_option linter.unusedVariables false
set_option linter.unusedSimpArgs false
namespace Go.Proofs.YtnheibcjcgacpaaGreatDoor
open Go.RowKit Go.ChangeMaps
section
variable {P : Program}
/-- 'append(xs, a, b, ..)', the new elements laid in a block of their own just before. -/
theorem wpList_appK {t e size bytes : Nat} (T : SlT P t e size bytes) (w : World) {ops : Array Oper} {rest : List Oper} {o : Oper} {a : Act} {Q : Exit → Act → World → Prop} (hgd : o.guard = none) (s x : Operand)
    (ho : o.op = .call { callee := .builtin .append, args := #[s, x], argTypes := #[t, t] }) (v : Value) (n m : Nat) (xs : List Value) (hs : a.eval s = v) (hown : Own w e size v n xs)
    (news : List Value) (hx : a.eval x = .slice (some ⟨w.heap.size, 0, none⟩) m m) (hl : news.length = m * size) (h1 : ∀ u ∈ news, u.oneCell' = true) (h63 : n + m ≤ maxLen) (hbytes : (n + m) * bytes ≤ 140737488355328)
    (h : ∀ v' w', Own w' e size v' (n + m) (xs ++ news) → Keeps (fun b => v.ownBlock = some b) w w' → (v'.ownBlock = v.ownBlock ∨ v'.ownBlock = some (w.heap.size + 1)) → wpList P ops Q rest (a.put o.dst v') w') :
    wpList P ops Q (o :: rest) a (w.alloc (.cells news.toArray e)) := by
  obtain ⟨i, z, hi, hz, h2, h3, h4⟩ := T.info
  refine wpList_append_own_at (w.alloc (.cells news.toArray e)) hgd s x t ho 0 e i z size bytes T.ht hi hz h2 h3 h4 T.pos v n xs hs (hown.alloc _) ⟨w.heap.size, 0, none⟩ m m news hx hl (cells_new w news e) h1 h63 hbytes (Nat.zero_le _) ?_
  intro v' w' hown' hg hnil hat
  refine h v' w' hown' ?_ (by simpa using hat)
  refine ⟨hg.os, hg.tape, hg.output, Nat.le_trans (by simp) hg.size, fun b hb hf => ?_⟩
  rw [hg.block b (by simp; omega) (fun e => hf e.symm)]
  show (w.heap.push _)[b]? = _
  rw [Array.getElem?_push, if_neg (by omega)]
/-- 'xs = append(xs, ys...)', ys a row somewhere. -/
theorem wpList_appL {t e size bytes : Nat} (T : SlT P t e size bytes) (w : World) {ops : Array Oper} {rest : List Oper} {o : Oper} {a : Act} {Q : Exit → Act → World → Prop} (hgd : o.guard = none) (s x : Operand)
    (ho : o.op = .call { callee := .builtin .append, args := #[s, x], argTypes := #[t, t] }) (v : Value) (n : Nat) (xs : List Value) (hs : a.eval s = v) (hown : Own w e size v n xs) (ad : Addr) (m c : Nat)
    (news : List Value) (hx : a.eval x = .slice (some ad) m c) (hl : news.length = m * size) (hr : Rd w (some ad) news) (h1 : ∀ u ∈ news, u.oneCell' = true) (h63 : n + m ≤ maxLen) (hbytes : (n + m) * bytes ≤ 140737488355328)
    (h : ∀ v' w', Own w' e size v' (n + m) (xs ++ news) → Keeps (fun b => v.ownBlock = some b) w w' → (v'.ownBlock = v.ownBlock ∨ v'.ownBlock = some w.heap.size) → wpList P ops Q rest (a.put o.dst v') w') :
    wpList P ops Q (o :: rest) a w := by
  obtain ⟨i, z, hi, hz, h2, h3, h4⟩ := T.info
  refine wpList_append_own_at w hgd s x t ho 0 e i z size bytes T.ht hi hz h2 h3 h4 T.pos v n xs hs hown ad m c news hx hl ?_ h1 h63 hbytes (Nat.zero_le _) ?_
  · intro j u hj
    obtain ⟨ad', e, hc⟩ := hr j u hj
    cases e; exact hc
  · intro v' w' hown' hg hnil hat
    exact h v' w' hown' ⟨hg.os, hg.tape, hg.output, hg.size, fun b hb hf => hg.block b hb (fun e => hf e.symm)⟩ hat
theorem run_append_nil (w : World) (t ty e : TypeId) (i : TypeInfo) (ht : P.underlying t = some (.slice e)) (hi : P.info? e = some i) (b : Option Addr) (n cap : Nat) (hc : n ≤ cap) (h63 : n ≤ maxLen) (hb : b = none → n = 0) :
    (Builtin.append_ #[t, t] ty #[.slice b n cap, .slice none 0 0]).run P w = .ok (.slice b n cap) w := by
  unfold maxLen at h63
  have h1 : ¬ (9223372036854775807 < (n : Int)) := by omega
  cases b with
  | none =>
    obtain rfl := hb rfl
    simp [Builtin.append_, run_underlying ht, sizeOf, typeInfo, hi, Builtin.lenOf, Builtin.firstCells]
  | some a => simp [Builtin.append_, run_underlying ht, sizeOf, typeInfo, hi, Builtin.lenOf, Builtin.firstCells, storeCells, hc, h1]
/-- 'append(xs, ys...)' as an equation on the run, ys a row somewhere (or none). -/
theorem run_appL {t e size bytes : Nat} (T : SlT P t e size bytes) (w : World) (ty : TypeId) (v : Value) (n : Nat) (xs : List Value) (hown : Own w e size v n xs) (A : Option Addr) (m c : Nat)
    (news : List Value) (hA : A = none → m = 0 ∧ c = 0) (hl : news.length = m * size) (hr : Rd w A news) (h1 : ∀ u ∈ news, u.oneCell' = true) (h63 : n + m ≤ maxLen) (hbytes : (n + m) * bytes ≤ 140737488355328) :
    ∃ v' w', (Builtin.append_ #[t, t] ty #[v, .slice A m c]).run P w = .ok v' w' ∧ Own w' e size v' (n + m) (xs ++ news) ∧ Keeps (fun b => v.ownBlock = some b) w w' ∧ (v'.ownBlock = v.ownBlock ∨ v'.ownBlock = some w.heap.size) := by
  obtain ⟨i, z, hi, hz, h2, h3, h4⟩ := T.info
  cases A with
  | none =>
    obtain ⟨rfl, rfl⟩ := hA rfl
    obtain rfl : news = [] := List.eq_nil_of_length_eq_zero (by simpa using hl)
    obtain ⟨A2, cap2, hv, hc, hn, -⟩ := hown.shape
    refine ⟨v, w, by rw [hv]; exact run_append_nil (P := P) w t ty e i T.ht hi A2 n cap2 hc (by omega) hn, by simpa using hown, Keeps.refl _ _, .inl rfl⟩
  | some ad =>
    obtain ⟨v', w', hrun, r2, hg, hnil, hat⟩ := run_append_own_at (P := P) w 0 t ty e i z size bytes T.ht hi hz h2 h3 h4 T.pos v n xs hown ad m c news hl (fun j u hj => by
      obtain ⟨ad', e, hc⟩ := hr j u hj
      cases e; exact hc) h1 h63 hbytes (Nat.zero_le _)
    exact ⟨v', w', hrun, r2, ⟨hg.os, hg.tape, hg.output, hg.size, fun b hb hf => hg.block b hb (fun e => hf e.symm)⟩, hat⟩
/-- .. where the source may be none. -/
theorem wpList_appO {t e size bytes : Nat} (T : SlT P t e size bytes) (w : World) {ops : Array Oper} {rest : List Oper} {o : Oper} {a : Act} {Q : Exit → Act → World → Prop} (hgd : o.guard = none) (s x : Operand)
    (ho : o.op = .call { callee := .builtin .append, args := #[s, x], argTypes := #[t, t] }) (v : Value) (n : Nat) (xs : List Value) (hs : a.eval s = v) (hown : Own w e size v n xs) (A : Option Addr) (m c : Nat)
    (news : List Value) (hx : a.eval x = .slice A m c) (hA : A = none → m = 0 ∧ c = 0) (hl : news.length = m * size) (hr : Rd w A news) (h1 : ∀ u ∈ news, u.oneCell' = true) (h63 : n + m ≤ maxLen) (hbytes : (n + m) * bytes ≤ 140737488355328)
    (h : ∀ v' w', Own w' e size v' (n + m) (xs ++ news) → Keeps (fun b => v.ownBlock = some b) w w' → (v'.ownBlock = v.ownBlock ∨ v'.ownBlock = some w.heap.size) → wpList P ops Q rest (a.put o.dst v') w') :
    wpList P ops Q (o :: rest) a w := by
  refine wpList_plain hgd fun K hK => ?_
  obtain ⟨v', w', hrun, r2, r3, r4⟩ := run_appL (P := P) T w o.type v n xs hown A m c news hA hl hr h1 h63 hbytes
  unfold Oper.wp execOp
  simp only [ho, resolve, invoke, builtin, Sem.run_bind, Sem.run_pure, Result.andThen_ok, List.map_toArray, List.map_cons, List.map_nil, hs, hx, hrun]
  exact hK _ _ (h v' w' r2 r3 r4)
/-- 'append(xs, a, b, ..)' as one step of a region that draws: the new elements lie in a block made just before. -/
theorem step_appM {t e size bytes : Nat} (T : SlT P t e size bytes) (w : World) {ops : Array Oper} {o : Oper} {a : Act} {K : Act → World → Prop} {Q : Exit → Act → World → Prop} {E : Prop} (hgd : o.guard = none) (s x : Operand)
    (ho : o.op = .call { callee := .builtin .append, args := #[s, x], argTypes := #[t, t] }) (v : Value) (n m : Nat) (xs : List Value) (hs : a.eval s = v) (hown : Own w e size v n xs)
    (news : List Value) (hx : a.eval x = .slice (some ⟨w.heap.size, 0, none⟩) m m) (hl : news.length = m * size) (h1 : ∀ u ∈ news, u.oneCell' = true) (h63 : n + m ≤ maxLen) (hbytes : (n + m) * bytes ≤ 140737488355328)
    (h : ∀ v' w', Own w' e size v' (n + m) (xs ++ news) → Keeps (fun b => v.ownBlock = some b) w w' → (v'.ownBlock = v.ownBlock ∨ v'.ownBlock = some (w.heap.size + 1)) → K (a.put o.dst v') w') :
    if Region.wanted o (yielded ops a.tmps) = true then Oper.wp P o a (w.alloc (.cells news.toArray e)) K Q else E := by
  obtain ⟨i, z, hi, hz, h2, h3, h4⟩ := T.info
  have hw : Region.wanted o (yielded ops a.tmps) = true := by simp [Region.wanted, hgd]
  rw [if_pos hw]
  obtain ⟨v', w', hr, r2, hg, hnil, hat⟩ := run_append_own_at (P := P) (w.alloc (.cells news.toArray e)) 0 t o.type e i z size bytes T.ht hi hz h2 h3 h4 T.pos v n xs (hown.alloc _) ⟨w.heap.size, 0, none⟩ m m news hl (cells_new w news e) h1 h63 hbytes (Nat.zero_le _)
  unfold Oper.wp execOp
  simp only [ho, resolve, invoke, builtin, Sem.run_bind, Sem.run_pure, Result.andThen_ok, List.map_toArray, List.map_cons, List.map_nil, hs, hx, hr]
  refine h v' w' r2 ?_ (by simpa using hat)
  refine ⟨hg.os, hg.tape, hg.output, Nat.le_trans (by simp) hg.size, fun b hb hf => ?_⟩
  rw [hg.block b (by simp; omega) (fun e => hf e.symm)]
  show (w.heap.push _)[b]? = _
  rw [Array.getElem?_push, if_neg (by omega)]
/-- 'append(xs, ys...)' as one step of a region that draws, ys a row somewhere. -/
theorem step_appL {t e size bytes : Nat} (T : SlT P t e size bytes) (w : World) {ops : Array Oper} {o : Oper} {a : Act} {K : Act → World → Prop} {Q : Exit → Act → World → Prop} {E : Prop} (hgd : o.guard = none) (s x : Operand)
    (ho : o.op = .call { callee := .builtin .append, args := #[s, x], argTypes := #[t, t] }) (v : Value) (n : Nat) (xs : List Value) (hs : a.eval s = v) (hown : Own w e size v n xs) (A : Option Addr) (m c : Nat)
    (news : List Value) (hx : a.eval x = .slice A m c) (hA : A = none → m = 0 ∧ c = 0) (hl : news.length = m * size) (hr : Rd w A news) (h1 : ∀ u ∈ news, u.oneCell' = true) (h63 : n + m ≤ maxLen) (hbytes : (n + m) * bytes ≤ 140737488355328)
    (h : ∀ v' w', Own w' e size v' (n + m) (xs ++ news) → Keeps (fun b => v.ownBlock = some b) w w' → (v'.ownBlock = v.ownBlock ∨ v'.ownBlock = some w.heap.size) → K (a.put o.dst v') w') :
    if Region.wanted o (yielded ops a.tmps) = true then Oper.wp P o a w K Q else E := by
  have hw : Region.wanted o (yielded ops a.tmps) = true := by simp [Region.wanted, hgd]
  rw [if_pos hw]
  obtain ⟨v', w', hrun, r2, r3, r4⟩ := run_appL (P := P) T w o.type v n xs hown A m c news hA hl hr h1 h63 hbytes
  unfold Oper.wp execOp
  simp only [ho, resolve, invoke, builtin, Sem.run_bind, Sem.run_pure, Result.andThen_ok, List.map_toArray, List.map_cons, List.map_nil, hs, hx, hrun]
  exact h v' w' r2 r3 r4
end
end Go.Proofs.YtnheibcjcgacpaaGreatDoor
