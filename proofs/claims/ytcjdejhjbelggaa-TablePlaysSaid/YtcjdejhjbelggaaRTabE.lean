/- The document's table (garthref15): Map (the list is cut, and put together anew). -/
import Derived.Test.YtcjdejhjbelggaaRTabD
import Derived.Test.YtcjdejhjbelggaaAppN
import Derived.ArgAppend
set_option linter.unusedVariables false
set_option linter.unusedSimpArgs false
namespace Go.Proofs.Ytcjdejhjbelggaa
open Go.RowKit Go.ChangeMaps
section
variable {P : Program}
/-- 'append(xs, ys...)': many elements behind an own slice. -/
theorem wpList_appM {t e size bytes : Nat} (T : SlT P t e size bytes) (w : World) {ops : Array Oper} {rest : List Oper} {o : Oper} {a : Act} {Q : Exit → Act → World → Prop} (hgd : o.guard = none) (s x : Operand)
    (ho : o.op = .call { callee := .builtin .append, args := #[s, x], argTypes := #[t, t] }) (v : Value) (n : Nat) (xs : List Value) (hs : a.eval s = v) (hown : Own w e size v n xs) (ad : Addr) (m c : Nat)
    (news : List Value) (hx : a.eval x = .slice (some ad) m c) (hl : news.length = m * size) (hr : Rd w (some ad) news) (h1 : ∀ u ∈ news, u.oneCell' = true) (h63 : n + m ≤ maxLen) (hbytes : (n + m) * bytes ≤ 140737488355328)
    (h : ∀ v' w', Own w' e size v' (n + m) (xs ++ news) → Keeps (fun b => v.ownBlock = some b) w w' → (v'.ownBlock = v.ownBlock ∨ v'.ownBlock = some w.heap.size) → wpList P ops Q rest (a.put o.dst v') w') :
    wpList P ops Q (o :: rest) a w := by
  obtain ⟨i, z, hi, hz, h2, h3, h4⟩ := T.info
  refine wpList_append_own_at w hgd s x t ho 0 e i z size bytes T.ht hi hz h2 h3 h4 T.pos v n xs hs hown ad m c news hx hl ?_ h1 h63 hbytes (Nat.zero_le _) ?_
  · intro j u hj
    obtain ⟨ad', e, hc⟩ := hr j u hj
    cases e; exact hc
  · intro v' w' hown' hg hnil hat
    exact h v' w' hown' ⟨hg.os, hg.tape, hg.output, hg.size, fun b hb hf => hg.block b hb (fun e => hf e.symm)⟩ hat
/-- 'append(xs[:i:i], x)': no room there: a new row, and the old one stays. -/
theorem wpList_appCut {t e size bytes : Nat} (T : SlT P t e size bytes) (w : World) {ops : Array Oper} {rest : List Oper} {o : Oper} {a : Act} {Q : Exit → Act → World → Prop} (hgd : o.guard = none) (s x : Operand)
    (ho : o.op = .call { callee := .builtin .append, args := #[s, x], argTypes := #[t, t] }) (A : Option Addr) (n : Nat) (olds : List Value) (hs : a.eval s = .slice A n n) (hA : A = none → n = 0) (hlo : olds.length = n * size) (hr : Rd w A olds)
    (news : List Value) (hx : a.eval x = .slice (some ⟨w.heap.size, 0, none⟩) 1 1) (hl : news.length = size) (h1 : ∀ u ∈ news, u.oneCell' = true) (h63 : n + 1 ≤ maxLen) (hbytes : (n + 1) * bytes ≤ 140737488355328)
    (h : ∀ v' w', Own w' e size v' (n + 1) (olds ++ news) → (∀ g, v'.ownBlock = some g → w.heap.size ≤ g) → Keeps (fun _ => False) w w' → wpList P ops Q rest (a.put o.dst v') w') :
    wpList P ops Q (o :: rest) a (w.alloc (.cells news.toArray e)) := by
  obtain ⟨i, z, hi, hz, h2, h3, h4⟩ := T.info
  have hr' : Rd (w.alloc (.cells news.toArray e)) A olds := hr.old ((Keeps.refl _ _).alloc _)
  refine wpList_append_grows (w.alloc (.cells news.toArray e)) hgd s x t ho e i z size bytes T.ht hi hz h2 h3 h4 T.pos A n n olds hs (fun e => ⟨hA e, hA e⟩) hlo (fun b hb j u hj => ?_) ⟨w.heap.size, 0, none⟩ 1 1 news hx (by omega) (cells_new w news e) h1 (by omega) h63 hbytes ?_
  · obtain ⟨ad', e2, hc⟩ := hr' j u hj
    rw [e2] at hb; cases hb; exact hc
  · intro v' w' hown' hg
    refine h v' w' ⟨hown'.1, ?_⟩ ?_ ?_
    · rcases hown'.2 with h2 | ⟨g, cp, cur, h3, h4, h5⟩
      · exact .inl h2
      · exact .inr ⟨g, cp, cur, h3, Nat.zero_le _, h5⟩
    · intro g hgv
      rcases hown'.2 with h2 | ⟨g2, cp, cur, h3, h4, h5⟩
      · rw [h2.1] at hgv; simp [Value.ownBlock] at hgv
      · have hg' : g2 = g := by rw [h3] at hgv; simpa [Value.ownBlock] using hgv
        have := h4
        simp at this
        omega
    · refine ⟨hg.os, hg.tape, hg.output, Nat.le_trans (by simp) hg.size, fun b hb hf => ?_⟩
      rw [hg.block b (by simp; omega) (by simp)]
      show (w.heap.push _)[b]? = _
      rw [Array.getElem?_push, if_neg (by omega)]
end
theorem Rd.take {w : World} {A : Option Addr} {xs : List Value} (h : Rd w A xs) (n : Nat) : Rd w A (xs.take n) := by
  intro j u hu
  rw [List.getElem?_take] at hu
  split at hu
  · exact h j u hu
  · simp at hu
theorem Rd.drop {w : World} {ad : Addr} {xs : List Value} (h : Rd w (some ad) xs) (n : Nat) : Rd w (some (ad.add n)) (xs.drop n) := by
  intro j u hu
  rw [List.getElem?_drop] at hu
  obtain ⟨a', e, hc⟩ := h _ u hu
  cases e
  exact ⟨_, rfl, by rw [Addr.add_add]; exact hc⟩
namespace RTab
def insL (L : Tab.Prs) (k p : Int) (i : Nat) : Tab.Prs := L.take i ++ (k, p) :: L.drop i
def cutI (L : Tab.Prs) (k : Int) : Nat := (L.takeWhile fun q => decide (q.1 < k)).length
def ins (L : Tab.Prs) (k p : Int) : Tab.Prs := insL L k p (cutI L k)
theorem cutI_is {L : Tab.Prs} {k : Int} {j : Nat} (hj : j ≤ L.length) (h : ∀ x ∈ L.take j, decide (x.1 < k) = true) (h2 : ∀ x, L[j]? = some x → decide (x.1 < k) = false) : cutI L k = j := by
  unfold cutI
  induction L generalizing j with
  | nil => simp at hj; simp [hj]
  | cons q L ih =>
    cases j with
    | zero => have := h2 q rfl; rw [List.takeWhile_cons, this]; rfl
    | succ j =>
      rw [List.takeWhile_cons, h q (by simp)]
      simp only [if_true, List.length_cons]
      rw [ih (by simpa using hj) (fun x hx => h x (by simp [hx])) (fun x hx => h2 x (by simpa using hx))]
def mapCode (L : Tab.Prs) (k p : Int) : Int := if k < 256 ∨ 6399 < k ∨ p < 0 ∨ 1048576 < p then 12 else if 0 ≤ byV L k ∨ 0 ≤ byP L p then 7 else 0
theorem prs_len (L : Tab.Prs) : (prs L).length = L.length * 2 := by
  induction L with
  | nil => rfl
  | cons a l ih => simp only [prs, List.flatMap_cons, List.length_append, List.length_cons] at *; rw [ih]; show 2 + _ = _; omega
theorem prs_take (L : Tab.Prs) (i : Nat) : (prs L).take (i * 2) = prs (L.take i) := by
  induction L generalizing i with
  | nil => simp [prs]
  | cons q L ih =>
    cases i with
    | zero => rfl
    | succ i =>
      have e : prs (q :: L) = .int .i64 q.1 :: .int .i64 q.2 :: prs L := rfl
      rw [e, show (i + 1) * 2 = i * 2 + 1 + 1 by omega, List.take_succ_cons, List.take_succ_cons, ih]; rfl
theorem prs_drop (L : Tab.Prs) (i : Nat) : (prs L).drop (i * 2) = prs (L.drop i) := by
  induction L generalizing i with
  | nil => simp [prs]
  | cons q L ih =>
    cases i with
    | zero => rfl
    | succ i =>
      have e : prs (q :: L) = .int .i64 q.1 :: .int .i64 q.2 :: prs L := rfl
      rw [e, show (i + 1) * 2 = i * 2 + 1 + 1 by omega, List.drop_succ_cons, List.drop_succ_cons, ih]; rfl
theorem prs_ins (L : Tab.Prs) (k p : Int) (i : Nat) : (prs (L.take i) ++ [.int .i64 k, .int .i64 p]) ++ prs (L.drop i) = prs (insL L k p i) := by
  simp [prs, insL, enc]
end RTab
end Go.Proofs.Ytcjdejhjbelggaa
