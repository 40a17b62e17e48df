/- garthref19.Right; garthref24.Alike, Leaks. -/
import Derived.Test.YtmlolkjgniodpaaProjD
import Derived.Deep.RegionHeld3
set_option linter.unusedVariables false
set_option linter.unusedSimpArgs false
namespace Go.Proofs.Ytmlolkjgniodpaa
open Go.RowKit Go.ChangeMaps
attribute [-go_sem] run_neq_struct run_eql_struct run_equalIn_agg
theorem keep_cell {w w' : World} {a : Addr} {v : Value} (k : Keeps (fun _ => False) w w') (h : w.cell? a = some v) : w'.cell? a = some v := by
  have hr : Rd w (some a) [v] := by
    intro j u hu
    cases j with
    | zero => simp at hu; subst hu; exact ⟨a, rfl, by simpa [Addr.add] using h⟩
    | succ j => simp at hu
  obtain ⟨ad, e, hc⟩ := (hr.old k) 0 v rfl
  cases e
  simpa [Addr.add] using hc
namespace Proj
set_option maxRecDepth 100000 in
set_option maxHeartbeats 2000000 in
theorem right_any (w : World) (k t n m hh : Int) (d : ByteArray) :
    Calls Try.prog 55 #[.agg #[.int .i64 k, .int .i64 t, .int .i64 n, .int .i64 m, .int .u64 hh, .string d]] w fun e w' => e = .returned (.bool (right ⟨k, t, n, m, hh, d⟩)) ∧ Keeps (fun _ => False) w w' := by
  obtain ⟨w1, hw1⟩ : ∃ w1, w.alloc (.cells #[.int .i64 k, .int .i64 t, .int .i64 n, .int .i64 m, .int .u64 hh, .string d] 30) = w1 := ⟨_, rfl⟩
  have k1 : Keeps (fun _ => False) w w1 := by rw [← hw1]; exact (Keeps.refl _ _).alloc _
  have hob : w1.heap[w.heap.size]? = some (.cells #[.int .i64 k, .int .i64 t, .int .i64 n, .int .i64 m, .int .u64 hh, .string d] 30 (0, 0)) := by rw [← hw1]; exact alloc_new _ _
  have d0 := cell_of hob 0 rfl
  have d1 := cell_of hob 1 rfl
  have d5 := cell_of hob 5 rfl
  obtain ⟨s, hs⟩ : ∃ s, d.size = s := ⟨_, rfl⟩
  have HK := Hid.of k1
  clear k1 hob
  have hsp : k < 1 ∨ (1 ≤ k ∧ 11 < k) ∨ (1 ≤ k ∧ k ≤ 11 ∧ t < 0) ∨ (1 ≤ k ∧ k ≤ 11 ∧ 0 ≤ t ∧ 8 ≤ t) ∨ (1 ≤ k ∧ k ≤ 11 ∧ 0 ≤ t ∧ t < 8 ∧ 8192 < s) ∨ (1 ≤ k ∧ k ≤ 11 ∧ 0 ≤ t ∧ t < 8 ∧ s ≤ 8192 ∧ 0 < s ∧ k ≠ 10) ∨ (1 ≤ k ∧ k ≤ 11 ∧ 0 ≤ t ∧ t < 8 ∧ s ≤ 8192 ∧ k = 10) ∨ (1 ≤ k ∧ k ≤ 11 ∧ 0 ≤ t ∧ t < 8 ∧ s = 0 ∧ k ≠ 10) := by omega
  rcases hsp with h | h | h | h | h | h | h | h
  case inr.inr.inr.inr.inr.inr.inl =>
    have hr : right ⟨k, t, n, m, hh, d⟩ = true := by simp only [right, hs, decide_eq_true_eq]; omega
    rw [hr]
    obtain ⟨h1, h2, h3, h4, h5, h7⟩ := h
    have e : (k == 10) = true := by simpa using h7
    clear h7 hr
    go_enter Try.func55, Try.ntmps55
    go_wp2
    go_ret
    exact ⟨rfl, HK.out⟩
  case inr.inr.inr.inr.inr.inr.inr =>
    have hr : right ⟨k, t, n, m, hh, d⟩ = true := by simp only [right, hs, decide_eq_true_eq]; omega
    rw [hr]
    obtain ⟨h1, h2, h3, h4, h5, h7⟩ := h
    have e : (k == 10) = false := by simpa using h7
    have hd : d = ⟨#[]⟩ := by
      obtain ⟨⟨x⟩⟩ := d
      have : x.length = 0 := by simpa [ByteArray.size, h5] using hs
      rw [List.length_eq_zero_iff.1 this]
    subst hd
    clear h7 hr
    go_enter Try.func55, Try.ntmps55
    go_wp2
    go_ret
    exact ⟨rfl, HK.out⟩
  case inr.inr.inr.inr.inr.inl =>
    have hr : right ⟨k, t, n, m, hh, d⟩ = false := by simp only [right, hs, decide_eq_false_iff_not]; omega
    rw [hr]
    obtain ⟨h1, h2, h3, h4, h5, h6, h7⟩ := h
    have e : (k == 10) = false := by simpa using h7
    have hd : d.toList.isEmpty = false := by
      rw [ByteArray.toList_eq]
      obtain ⟨⟨x⟩⟩ := d
      cases x with
      | nil => simp [ByteArray.size] at hs; omega
      | cons a x => rfl
    clear h7 hr
    go_enter Try.func55, Try.ntmps55
    go_wp2
    go_ret
    exact ⟨rfl, HK.out⟩
  all_goals
    have hr : right ⟨k, t, n, m, hh, d⟩ = false := by simp only [right, hs, decide_eq_false_iff_not]; omega
    rw [hr]
    first | obtain ⟨h1, h2, h3, h4, h5⟩ := h | obtain ⟨h1, h2, h3, h4⟩ := h | obtain ⟨h1, h2, h3⟩ := h | obtain ⟨h1, h2⟩ := h | skip
    clear hr
    go_enter Try.func55, Try.ntmps55
    go_wp2
    go_ret
    exact ⟨rfl, HK.out⟩

theorem rsee {w : World} {A : Option Addr} {xs : List See} (h : Rd w A (sees xs)) (j : Nat) (hj : j < xs.length) :
    ∃ b o s k t n m hh d k' t' n' m' d' hh', xs[j]? = some (⟨k, t, n, m, hh, d⟩, ⟨k', t', n', m', d', hh'⟩) ∧ A = some ⟨b, o, s⟩ ∧ w.cell? ((⟨b, o, s⟩ : Addr).add (j * 12)) = some (.int .i64 k) ∧ w.cell? ⟨((⟨b, o, s⟩ : Addr).add (j * 12)).block, ((⟨b, o, s⟩ : Addr).add (j * 12)).off + 1, none⟩ = some (.int .i64 t) ∧ w.cell? ⟨((⟨b, o, s⟩ : Addr).add (j * 12)).block, ((⟨b, o, s⟩ : Addr).add (j * 12)).off + 2, none⟩ = some (.int .i64 n) ∧ w.cell? ⟨((⟨b, o, s⟩ : Addr).add (j * 12)).block, ((⟨b, o, s⟩ : Addr).add (j * 12)).off + 3, none⟩ = some (.int .i64 m) ∧ w.cell? ⟨((⟨b, o, s⟩ : Addr).add (j * 12)).block, ((⟨b, o, s⟩ : Addr).add (j * 12)).off + 4, none⟩ = some (.int .u64 hh) ∧ w.cell? ⟨((⟨b, o, s⟩ : Addr).add (j * 12)).block, ((⟨b, o, s⟩ : Addr).add (j * 12)).off + 5, none⟩ = some (.string d) ∧ w.cell? ⟨((⟨b, o, s⟩ : Addr).add (j * 12)).block, ((⟨b, o, s⟩ : Addr).add (j * 12)).off + 6, none⟩ = some (.int .i64 k') ∧ w.cell? ⟨((⟨b, o, s⟩ : Addr).add (j * 12)).block, ((⟨b, o, s⟩ : Addr).add (j * 12)).off + 7, none⟩ = some (.int .u64 t') ∧ w.cell? ⟨((⟨b, o, s⟩ : Addr).add (j * 12)).block, ((⟨b, o, s⟩ : Addr).add (j * 12)).off + 8, none⟩ = some (.int .i64 n') ∧ w.cell? ⟨((⟨b, o, s⟩ : Addr).add (j * 12)).block, ((⟨b, o, s⟩ : Addr).add (j * 12)).off + 9, none⟩ = some (.int .i64 m') ∧ w.cell? ⟨((⟨b, o, s⟩ : Addr).add (j * 12)).block, ((⟨b, o, s⟩ : Addr).add (j * 12)).off + 10, none⟩ = some (.string d') ∧ w.cell? ⟨((⟨b, o, s⟩ : Addr).add (j * 12)).block, ((⟨b, o, s⟩ : Addr).add (j * 12)).off + 11, none⟩ = some (.int .i64 hh') := by
  have e := List.getElem?_eq_getElem hj
  have g := flatMap_get See.enc 12 (fun _ => rfl) xs j _ e
  obtain ⟨ad, rfl, h0⟩ := h _ _ (g 0 (by omega))
  obtain ⟨a1, q, h1⟩ := h _ _ (g 1 (by omega)); cases q
  obtain ⟨a1, q, h2⟩ := h _ _ (g 2 (by omega)); cases q
  obtain ⟨a1, q, h3⟩ := h _ _ (g 3 (by omega)); cases q
  obtain ⟨a1, q, h4⟩ := h _ _ (g 4 (by omega)); cases q
  obtain ⟨a1, q, h5⟩ := h _ _ (g 5 (by omega)); cases q
  obtain ⟨a1, q, h6⟩ := h _ _ (g 6 (by omega)); cases q
  obtain ⟨a1, q, h7⟩ := h _ _ (g 7 (by omega)); cases q
  obtain ⟨a1, q, h8⟩ := h _ _ (g 8 (by omega)); cases q
  obtain ⟨a1, q, h9⟩ := h _ _ (g 9 (by omega)); cases q
  obtain ⟨a1, q, h10⟩ := h _ _ (g 10 (by omega)); cases q
  obtain ⟨a1, q, h11⟩ := h _ _ (g 11 (by omega)); cases q
  exact ⟨_, _, _, _, _, _, _, _, _, _, _, _, _, _, _, e, rfl, h0, cell_field (by omega) h1, cell_field (by omega) h2, cell_field (by omega) h3, cell_field (by omega) h4, cell_field (by omega) h5, cell_field (by omega) h6, cell_field (by omega) h7, cell_field (by omega) h8, cell_field (by omega) h9, cell_field (by omega) h10, cell_field (by omega) h11⟩
end Proj
end Go.Proofs.Ytmlolkjgniodpaa
