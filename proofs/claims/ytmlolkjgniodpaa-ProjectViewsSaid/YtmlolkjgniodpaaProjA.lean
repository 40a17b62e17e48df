/- project: Of, Said; garthref24.View; lists of operations compared. -/
import Derived.Test.YtmlolkjgniodpaaRec
import Derived.Test.YtmlolkjgniodpaaRows
set_option linter.unusedVariables false
set_option linter.unusedSimpArgs false
namespace Go.Proofs.Ytmlolkjgniodpaa
open Go.RowKit Go.ChangeMaps
attribute [-go_sem] run_neq_struct run_eql_struct run_equalIn_agg
attribute [go_sem] neq_op eql_op neq_ans
namespace Proj
def ofL (id : Int) (L : List XOp) : List XOp := L.filter fun o => o.tenant == id
set_option maxRecDepth 100000 in
set_option maxHeartbeats 1000000 in
theorem of_any (w : World) (A : Option Addr) (cap : Nat) (id : Int) (xs : List XOp) (n : Nat) (ha : Rd w A (ops xs)) (hn : xs.length = n) (hx : n ≤ 1000000) :
    Calls Try.prog 18 #[.int .i64 id, .slice A n cap] w fun e w' => ∃ v, e = .returned v ∧ OutR 30 6 w.heap.size w' v (ofL id xs).length (ops (ofL id xs)) ∧ Keeps (fun _ => False) w w' := by
  subst hn
  go_enter Try.func18, Try.ntmps18
  go_wp2
  go_loopw [4, 9] (fun l i wr => ∃ j : Nat, j ≤ xs.length ∧ i = .int .i64 j ∧ OutR 30 6 w.heap.size wr l (ofL id (xs.take j)).length (ops (ofL id (xs.take j))) ∧ Keeps (fun _ => False) w wr) (fun _ i _ => xs.length - (intOf i).toNat)
  case atStart => exact ⟨0, Nat.zero_le _, rfl, OutR.nil _ _ _ _, Keeps.refl _ _⟩
  case round =>
    obtain ⟨j, hj, rfl, ho, kp⟩ := hrel
    by_cases hlt : j < xs.length
    · obtain ⟨b, o, s, k, t, n, m, hh, d, hg, rfl, c0, c1, c2, c3, c4, c5⟩ := rop (ha.old kp) j hlt
      have hk1 : decide ((j : Int) < xs.length) = true := by simp; omega
      obtain ⟨w4, hw4⟩ : ∃ w4, wr.alloc (.cells #[.int .i64 k, .int .i64 t, .int .i64 n, .int .i64 m, .int .u64 hh, .string d] 30) = w4 := ⟨_, rfl⟩
      have k4 : Keeps (fun _ => False) wr w4 := by rw [← hw4]; exact (Keeps.refl _ _).alloc _
      have hob : w4.heap[wr.heap.size]? = some (.cells #[.int .i64 k, .int .i64 t, .int .i64 n, .int .i64 m, .int .u64 hh, .string d] 30 (0, 0)) := by rw [← hw4]; exact alloc_new _ _
      have d0 := cell_of hob 0 rfl
      have d1 := cell_of hob 1 rfl
      have d2 := cell_of hob 2 rfl
      have d3 := cell_of hob 3 rfl
      have d4 := cell_of hob 4 rfl
      have d5 := cell_of hob 5 rfl
      have hT : Hid _ := take_get hg
      have hl : (ofL id (xs.take j)).length ≤ 1000000 := by have := List.length_filter_le (fun o : XOp => o.tenant == id) (xs.take j); unfold ofL; simp at this; omega
      have ho4 := ho.old k4
      have kp4 := kp.trans k4
      have hs4 := kp4.size
      clear hg
      by_cases ht : t = id
      · have e1 : (t == id) = true := by simpa using ht
        have e2 : Hid (ofL id (xs.take (j + 1)) = ofL id (xs.take j) ++ [⟨k, t, n, m, hh, d⟩]) := by refine Hid.of ?_; rw [hT.out]; unfold ofL; rw [List.filter_append]; simp [ht]
        clear ht
        generalize ofL id (xs.take j) = L at *
        go_wp2_with (at_builtin; refine wpList_app1 slOps w4 rfl _ _ rfl u4 L.length (ops L) rfl ho4.1 [.int .i64 k, .int .i64 t, .int .i64 n, .int .i64 m, .int .u64 hh, .string d] rfl rfl (by simp [Value.oneCell']) (by unfold maxLen; omega) (by omega) ?_; intro v' w5 o5 k5 at5)
        go_roundw
        case rel =>
          refine ⟨j + 1, by omega, by go_num, ?_, ho4.keeps kp4 k5⟩
          rw [e2.out, List.length_append, show ops (L ++ [⟨k, t, n, m, hh, d⟩]) = ops L ++ [.int .i64 k, .int .i64 t, .int .i64 n, .int .i64 m, .int .u64 hh, .string d] by simp [ops, XOp.enc]]
          exact ho4.app o5 at5 hs4
        case measure => simp [intOf]; omega
      · have e1 : (t == id) = false := by simpa using ht
        have e2 : Hid (ofL id (xs.take (j + 1)) = ofL id (xs.take j)) := by refine Hid.of ?_; rw [hT.out]; unfold ofL; rw [List.filter_append]; simp [ht]
        clear ht
        generalize ofL id (xs.take j) = L at *
        go_wp2
        go_roundw
        case rel => exact ⟨j + 1, by omega, by go_num, by rw [e2.out]; exact ho4, kp4⟩
        case measure => simp [intOf]; omega
    · have hk1 : decide ((j : Int) < xs.length) = false := by simp; omega
      have hall : xs.take j = xs := List.take_of_length_le (by omega)
      rw [hall] at ho
      clear hall
      go_wp2
      go_ret
      exact ⟨_, rfl, ho, kp⟩
end Proj
end Go.Proofs.Ytmlolkjgniodpaa
