/- The document's script (garthref22): small, bytes. -/
import Derived.Test.YtmlolkjgniodpaaScrE
import Derived.Test.YtmlolkjgniodpaaScrT
import Derived.Test.YtmlolkjgniodpaaScrY
set_option linter.unusedVariables false
set_option linter.unusedSimpArgs false
namespace Go.Proofs.Ytmlolkjgniodpaa
open Go.RowKit Go.ChangeMaps
attribute [-go_sem] run_index_string run_neq_struct run_eql_struct run_equalIn_agg
section
variable {P : Program}
/-- 'append(xs, a, b, ..)', the new elements laid in a block of their own just before. -/
theorem wpList_appK {t e size bytes : Nat} (T : SlT P t e size bytes) (w : World) {ops : Array Oper} {rest : List Oper} {o : Oper} {a : Act} {Q : Exit → Act → World → Prop} (hgd : o.guard = none) (s x : Operand)
    (ho : o.op = .call { callee := .builtin .append, args := #[s, x], argTypes := #[t, t] }) (v : Value) (n m : Nat) (xs : List Value) (hs : a.eval s = v) (hown : Own w e size v n xs)
    (news : List Value) (hx : a.eval x = .slice (some ⟨w.heap.size, 0, none⟩) m m) (hl : news.length = m * size) (h1 : ∀ u ∈ news, u.oneCell' = true) (h63 : n + m ≤ maxLen) (hbytes : (n + m) * bytes ≤ 140737488355328)
    (h : ∀ v' w', Own w' e size v' (n + m) (xs ++ news) → Keeps (fun b => v.ownBlock = some b) w w' → (v'.ownBlock = v.ownBlock ∨ v'.ownBlock = some (w.heap.size + 1)) → wpList P ops Q rest (a.put o.dst v') w') :
    wpList P ops Q (o :: rest) a (w.alloc (.cells news.toArray e)) := by
  obtain ⟨i, z, hi, hz, h2, h3, h4⟩ := T.info
  refine wpList_append_own_at (w.alloc (.cells news.toArray e)) hgd s x t ho 0 e i z size bytes T.ht hi hz h2 h3 h4 T.pos v n xs hs (hown.alloc _) ⟨w.heap.size, 0, none⟩ m m news hx hl (cells_new w news e) h1 h63 hbytes (Nat.zero_le _) ?_
  intro v' w' hown' hg hnil hat
  refine h v' w' hown' ?_ (by simpa using hat)
  refine ⟨hg.os, hg.tape, hg.output, Nat.le_trans (by simp) hg.size, fun b hb hf => ?_⟩
  rw [hg.block b (by simp; omega) (fun e => hf e.symm)]
  show (w.heap.push _)[b]? = _
  rw [Array.getElem?_push, if_neg (by omega)]
end
namespace Scr
set_option maxRecDepth 100000 in
set_option maxHeartbeats 1000000 in
theorem small_any (w : World) (x : Stp) :
    Calls Try.prog 66 #[.agg #[.int .i64 x.kind, .int .i64 x.tenant, .int .i64 x.n, .int .i64 x.m, .int .u64 x.handle, .string (bs x.data)]] w fun e w' => e = .returned (.bool (small x)) ∧ Keeps (fun _ => False) w w' := by
  obtain ⟨k, t, n, m, hd, d, bk⟩ := x
  have hs : small ⟨k, t, n, m, hd, d, bk⟩ = decide (-32768 ≤ n ∧ n ≤ 32767 ∧ -32768 ≤ m ∧ m ≤ 32767) := by
    unfold small in16
    rw [Bool.eq_iff_iff]; simp; omega
  rw [hs]
  have hc : n < -32768 ∨ (-32768 ≤ n ∧ 32767 < n) ∨ (-32768 ≤ n ∧ n ≤ 32767 ∧ m < -32768) ∨ (-32768 ≤ n ∧ n ≤ 32767 ∧ -32768 ≤ m ∧ 32767 < m) ∨ (-32768 ≤ n ∧ n ≤ 32767 ∧ -32768 ≤ m ∧ m ≤ 32767) := by omega
  clear hs
  obtain ⟨r, hr⟩ : ∃ r, decide (-32768 ≤ n ∧ n ≤ 32767 ∧ -32768 ≤ m ∧ m ≤ 32767) = r := ⟨_, rfl⟩
  rw [hr]
  have HR := Hid.of hr
  clear hr
  rcases hc with h1 | ⟨h1, h2⟩ | ⟨h1, h2, h3⟩ | ⟨h1, h2, h3, h4⟩ | ⟨h1, h2, h3, h4⟩
  · obtain rfl : r = false := by rw [← HR.out]; simp; omega
    go_enter Try.func66, Try.ntmps66
    go_wp2
    go_ret
    exact ⟨by first | rfl | (simp; omega), (Keeps.refl _ _).alloc _⟩
  · obtain rfl : r = false := by rw [← HR.out]; simp; omega
    have d1 : decide (-32768 ≤ n) = true := by simp; omega
    have d2 : decide (n ≤ 32767) = false := by simp; omega
    go_enter Try.func66, Try.ntmps66
    go_wp2
    go_ret
    exact ⟨by first | rfl | (simp; omega), (Keeps.refl _ _).alloc _⟩
  · obtain rfl : r = false := by rw [← HR.out]; simp; omega
    have d1 : decide (-32768 ≤ n) = true := by simp; omega
    have d2 : decide (n ≤ 32767) = true := by simp; omega
    have d3 : decide (-32768 ≤ m) = false := by simp; omega
    go_enter Try.func66, Try.ntmps66
    go_wp2
    go_ret
    exact ⟨by first | rfl | (simp; omega), (Keeps.refl _ _).alloc _⟩
  · obtain rfl : r = false := by rw [← HR.out]; simp; omega
    have d1 : decide (-32768 ≤ n) = true := by simp; omega
    have d2 : decide (n ≤ 32767) = true := by simp; omega
    have d3 : decide (-32768 ≤ m) = true := by simp; omega
    have d4 : decide (m ≤ 32767) = false := by simp; omega
    go_enter Try.func66, Try.ntmps66
    go_wp2
    go_ret
    exact ⟨by first | rfl | (simp; omega), (Keeps.refl _ _).alloc _⟩
  · obtain rfl : r = true := by rw [← HR.out]; simp; omega
    have d1 : decide (-32768 ≤ n) = true := by simp; omega
    have d2 : decide (n ≤ 32767) = true := by simp; omega
    have d3 : decide (-32768 ≤ m) = true := by simp; omega
    have d4 : decide (m ≤ 32767) = true := by simp; omega
    go_enter Try.func66, Try.ntmps66
    go_wp2
    go_ret
    exact ⟨by first | rfl | (simp; omega), (Keeps.refl _ _).alloc _⟩
/-- Two bytes of a number, as the document reckons them. -/
theorem two_bytes (n : Int) (h1 : -32768 ≤ n) (h2 : n ≤ 32767) : ∃ q1 q3 q4 : Int, n.tmod 256 = q1 ∧ -255 ≤ q1 ∧ q1 ≤ 255 ∧ (n - (q1 + 256) % 256).tdiv 256 = q3 ∧ -128 ≤ q3 ∧ q3 ≤ 127 ∧ q3.tmod 256 = q4 ∧ -255 ≤ q4 ∧ q4 ≤ 255 ∧ IntKind.u8.wrap (q1 + 256) = n % 256 ∧ IntKind.u8.wrap (q4 + 256) = n / 256 % 256 := by
  have e1 : n.tmod 256 = if 0 ≤ n then n % 256 else -((-n) % 256) := by
    split
    · exact Int.tmod_eq_emod_of_nonneg (by assumption)
    · rw [← Int.neg_neg n, Int.neg_tmod, Int.tmod_eq_emod_of_nonneg (by omega)]; simp
  obtain ⟨q1, hq1⟩ : ∃ q, n.tmod 256 = q := ⟨_, rfl⟩
  have b1 : -255 ≤ q1 ∧ q1 ≤ 255 ∧ (q1 + 256) % 256 = n % 256 := by
    rw [← hq1, e1]; split <;> omega
  have e3 : n - (q1 + 256) % 256 = 256 * (n / 256) := by omega
  have e4 : (n - (q1 + 256) % 256).tdiv 256 = n / 256 := by
    rw [e3, Int.mul_tdiv_cancel_left _ (by decide)]
  have e5 : (n / 256).tmod 256 = if 0 ≤ n / 256 then n / 256 else n / 256 := by
    split
    · rw [Int.tmod_eq_emod_of_nonneg (by assumption)]; omega
    · have : (n / 256).tmod 256 = -((-(n / 256)).tmod 256) := by rw [Int.neg_tmod]; simp
      rw [this, Int.tmod_eq_emod_of_nonneg (by omega)]; omega
  refine ⟨q1, n / 256, n / 256, hq1, b1.1, b1.2.1, e4, by omega, by omega, by rw [e5]; split <;> rfl, by omega, by omega, ?_, ?_⟩
  · rw [IntKind.wrap_u8]; exact b1.2.2
  · rw [IntKind.wrap_u8]; omega
end Scr
end Go.Proofs.Ytmlolkjgniodpaa
