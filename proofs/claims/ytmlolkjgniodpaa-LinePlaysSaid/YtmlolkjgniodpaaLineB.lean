/- The line package's walks, second part: Push, Remove, Front, Len, New, All, and all calls at nil. -/
import Derived.Test.YtmlolkjgniodpaaLineA
set_option linter.unusedVariables false
set_option linter.unusedSimpArgs false
namespace Go.Proofs.Ytmlolkjgniodpaa
open Go.RowKit Go.ChangeMaps
namespace Line

set_option maxRecDepth 100000 in
set_option maxHeartbeats 400000 in
theorem has_nil (k : Int) (w : World) : Calls Try.prog 28 #[.pointer none, .int .i64 k] w fun e w' => e = .returned (.bool false) ∧ w = w' := by
  go_enter Try.func28, Try.ntmps28
  go_wp2
  go_ret
  exact ⟨rfl, rfl⟩
set_option maxRecDepth 100000 in
set_option maxHeartbeats 400000 in
theorem front_nil (w : World) : Calls Try.prog 26 #[.pointer none] w fun e w' => e = .returned (.int .i64 (-1)) ∧ w = w' := by
  go_enter Try.func26, Try.ntmps26
  go_wp2
  go_ret
  exact ⟨rfl, rfl⟩
set_option maxRecDepth 100000 in
set_option maxHeartbeats 400000 in
theorem len_nil (w : World) : Calls Try.prog 29 #[.pointer none] w fun e w' => e = .returned (.int .i64 0) ∧ w = w' := by
  go_enter Try.func29, Try.ntmps29
  go_wp2
  go_ret
  exact ⟨rfl, rfl⟩
set_option maxRecDepth 100000 in
set_option maxHeartbeats 400000 in
theorem push_nil (k : Int) (w : World) : Calls Try.prog 25 #[.pointer none, .int .i64 k] w fun e w' => e = .returned (.int .i64 11) ∧ w = w' := by
  go_enter Try.func25, Try.ntmps25
  go_wp2
  go_ret
  exact ⟨rfl, rfl⟩
set_option maxRecDepth 100000 in
set_option maxHeartbeats 400000 in
theorem remove_nil (k : Int) (w : World) : Calls Try.prog 27 #[.pointer none, .int .i64 k] w fun e w' => e = .returned (.int .i64 11) ∧ w = w' := by
  go_enter Try.func27, Try.ntmps27
  go_wp2
  go_ret
  exact ⟨rfl, rfl⟩
set_option maxRecDepth 100000 in
set_option maxHeartbeats 400000 in
theorem copy_nil (w : World) : Calls Try.prog 41 #[.pointer none] w fun e w' => e = .returned (.pointer none) ∧ w = w' := by
  go_enter Try.func41, Try.ntmps41
  go_wp2
  go_ret
  exact ⟨rfl, rfl⟩

set_option maxRecDepth 100000 in
set_option maxHeartbeats 400000 in
theorem front_any (w : World) (b m : Nat) (E : List (Int × (Int × Int))) (f l : Int) (h : At w b m E f l) :
    Calls Try.prog 26 #[.pointer (some ⟨b, 0, none⟩)] w fun e w' => e = .returned (.int .i64 f) ∧ w = w' := by
  obtain ⟨c0, c1, c2, f1, f2⟩ := h.cells
  clear h
  go_enter Try.func26, Try.ntmps26
  go_wp2
  go_ret
  exact ⟨rfl, rfl⟩
set_option maxRecDepth 100000 in
set_option maxHeartbeats 400000 in
theorem len_any (w : World) (b m : Nat) (E : List (Int × (Int × Int))) (f l : Int) (h : At w b m E f l) :
    Calls Try.prog 29 #[.pointer (some ⟨b, 0, none⟩)] w fun e w' => e = .returned (.int .i64 E.length) ∧ w = w' := by
  obtain ⟨c0, c1, c2, f1, f2⟩ := h.cells
  have hl := h.2.1.len (P := Try.prog) (ty := 3) Try.underlying89
  clear h
  go_enter Try.func29, Try.ntmps29
  go_wp2
  go_ret
  exact ⟨rfl, rfl⟩
set_option maxRecDepth 100000 in
set_option maxHeartbeats 400000 in
theorem new_any (w : World) : Calls Try.prog 24 #[] w fun e w' => e = .returned (.pointer (some ⟨w.heap.size + 1, 0, none⟩)) ∧ At w' (w.heap.size + 1) w.heap.size [] (-1) (-1) ∧ Keeps (fun _ => False) w w' := by
  have hmm := @run_makeMap Try.prog
  go_enter Try.func24, Try.ntmps24
  go_wp2
  go_ret
  refine ⟨rfl, ⟨?_, (EMap.new near w).alloc _, by omega⟩, ((Keeps.refl _ _).alloc _).alloc _⟩
  have := alloc_new (w.alloc (.map #[] 0)) (.cells #[.map (some w.heap.size), .int .i64 (-1), .int .i64 (-1)] 91)
  simpa using this

set_option maxRecDepth 100000 in
set_option maxHeartbeats 400000 in
theorem push_neg (w : World) (b m : Nat) (E : List (Int × (Int × Int))) (f l k : Int) (h : At w b m E f l) (hk : k < 0) :
    Calls Try.prog 25 #[.pointer (some ⟨b, 0, none⟩), .int .i64 k] w fun e w' => e = .returned (.int .i64 12) ∧ w = w' := by
  go_enter Try.func25, Try.ntmps25
  go_wp2
  go_ret
  exact ⟨rfl, rfl⟩
set_option maxRecDepth 100000 in
set_option maxHeartbeats 400000 in
theorem push_there (w : World) (b m : Nat) (E : List (Int × (Int × Int))) (f l k : Int) (h : At w b m E f l) (hk : ¬ k < 0) (ht : (eget E k).isSome = true) :
    Calls Try.prog 25 #[.pointer (some ⟨b, 0, none⟩), .int .i64 k] w fun e w' => e = .returned (.int .i64 7) ∧ Keeps (fun _ => False) w w' := by
  have hc := has_any w b m E f l k h
  rw [ht] at hc
  go_enter Try.func25, Try.ntmps25
  go_wp2_with fail
  refine hc.mono ?_
  rintro e w' ⟨rfl, hk'⟩
  go_wp2
  go_ret
  exact ⟨rfl, hk'⟩
set_option maxRecDepth 100000 in
set_option maxHeartbeats 400000 in
theorem push_new (w : World) (b m : Nat) (E : List (Int × (Int × Int))) (f l k : Int) (h : At w b m E f l) (hk : ¬ k < 0) (ht : (eget E k).isSome = false) :
    Calls Try.prog 25 #[.pointer (some ⟨b, 0, none⟩), .int .i64 k] w fun e w' => e = .returned (.int .i64 0) ∧
      At w' b m (tE2 (tE1 (tE2 (tE1 (eset E k (-1, -1)) l k) l k) k (-1)) k (-1)) (tF (tF f l k) k (-1)) (tL (tL l l k) k (-1)) ∧ Keeps (fun x => x = b ∨ x = m) w w' := by
  have hc := has_any w b m E f l k h
  rw [ht] at hc
  go_enter Try.func25, Try.ntmps25
  go_wp2_with fail
  refine hc.mono ?_
  rintro e w1 ⟨rfl, k1⟩
  have h1 : At w1 b m E f l := ⟨k1.at h.1 (fun x => x), h.2.1.keep k1 (fun x => x), h.2.2⟩
  obtain ⟨c0, c1, c2, f1, f2⟩ := h1.cells
  obtain ⟨w2, hu2, hm2, k2⟩ := h1.2.1.upd (P := Try.prog) _ Try.underlying89 Try.underlying3 k (-1, -1)
  have h2 : At w2 b m (eset E k (-1, -1)) f l := ⟨k2.at h1.1 h1.2.2, hm2, h1.2.2⟩
  go_wp2_with fail
  refine (tie_any w2 b m _ _ _ l k h2).mono ?_
  rintro e w3 ⟨rfl, h3, k3⟩
  go_wp2_with fail
  refine (tie_any w3 b m _ _ _ k (-1) h3).mono ?_
  rintro e w4 ⟨rfl, h4, k4⟩
  go_wp2
  go_ret
  exact ⟨rfl, h4, (((k1.mono (fun x _ hx => hx.elim)).trans (k2.mono (fun x _ hx => .inr hx))).trans k3).trans k4⟩
set_option maxRecDepth 100000 in
set_option maxHeartbeats 400000 in
theorem remove_none (w : World) (b m : Nat) (E : List (Int × (Int × Int))) (f l k : Int) (h : At w b m E f l) (ht : (eget E k).isSome = false) :
    Calls Try.prog 27 #[.pointer (some ⟨b, 0, none⟩), .int .i64 k] w fun e w' => e = .returned (.int .i64 13) ∧ Keeps (fun _ => False) w w' := by
  have hc := has_any w b m E f l k h
  rw [ht] at hc
  go_enter Try.func27, Try.ntmps27
  go_wp2_with fail
  refine hc.mono ?_
  rintro e w' ⟨rfl, hk'⟩
  go_wp2
  go_ret
  exact ⟨rfl, hk'⟩
set_option maxRecDepth 100000 in
set_option maxHeartbeats 400000 in
theorem remove_some (w : World) (b m : Nat) (E : List (Int × (Int × Int))) (f l k : Int) (h : At w b m E f l) (p : Int × Int) (ht : eget E k = some p) :
    Calls Try.prog 27 #[.pointer (some ⟨b, 0, none⟩), .int .i64 k] w fun e w' => e = .returned (.int .i64 0) ∧
      At w' b m (tE2 (tE1 (edel E k) p.1 p.2) p.1 p.2) (tF f p.1 p.2) (tL l p.1 p.2) ∧ Keeps (fun x => x = b ∨ x = m) w w' := by
  have hc := has_any w b m E f l k h
  rw [ht] at hc
  simp only [Option.isSome_some] at hc
  go_enter Try.func27, Try.ntmps27
  go_wp2_with fail
  refine hc.mono ?_
  rintro e w1 ⟨rfl, k1⟩
  have h1 : At w1 b m E f l := ⟨k1.at h.1 (fun x => x), h.2.1.keep k1 (fun x => x), h.2.2⟩
  obtain ⟨c0, c1, c2, f1, f2⟩ := h1.cells
  have hl := h1.2.1.look (P := Try.prog) _ Try.underlying89 Try.underlying3 k (z := (0, 0)) (zero_near _)
  rw [ht] at hl
  simp only [near, Option.getD_some] at hl
  obtain ⟨w2, hw2⟩ : ∃ w2, w1.alloc (.cells #[.int .i64 p.1, .int .i64 p.2] 93) = w2 := ⟨_, rfl⟩
  have h2 : At w2 b m E f l := by rw [← hw2]; exact ⟨alloc_old h1.1 _, h1.2.1.alloc _, h1.2.2⟩
  have k2 : Keeps (fun x => x = b ∨ x = m) w w2 := by rw [← hw2]; exact (k1.mono (fun x _ hx => hx.elim)).alloc _
  have hz : w1.heap.size < w2.heap.size := by rw [← hw2]; simp
  have hn : w2.heap[w1.heap.size]? = some (.cells #[.int .i64 p.1, .int .i64 p.2] 93 (0, 0)) := by rw [← hw2]; exact alloc_new _ _
  have hb1 : b < w1.heap.size := lt_of h1.1
  have hm1 : m < w1.heap.size := h1.2.1.lt
  obtain ⟨d0, d1, d2, g1, g2⟩ := h2.cells
  obtain ⟨w3, hd3, hm3, k3⟩ := h2.2.1.del (P := Try.prog) (ty := 0) _ Try.underlying89 Try.underlying3 k
  have h3 : At w3 b m (edel E k) f l := ⟨k3.at h2.1 h1.2.2, hm3, h1.2.2⟩
  have hn3 := k3.at hn (by show ¬ _ = _; omega)
  have n0 := cell_of hn3 0 rfl
  have n1 := cell_of hn3 1 rfl
  go_wp2_with fail
  refine (tie_any w3 b m _ _ _ p.1 p.2 h3).mono ?_
  rintro e w4 ⟨rfl, h4, k4⟩
  go_wp2
  go_ret
  exact ⟨rfl, h4, (k2.trans (k3.mono (fun x _ hx => .inr hx))).trans k4⟩
end Line
end Go.Proofs.Ytmlolkjgniodpaa
