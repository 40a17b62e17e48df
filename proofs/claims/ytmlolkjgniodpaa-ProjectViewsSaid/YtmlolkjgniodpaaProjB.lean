/- project: Said; garthref24.View. -/
import Derived.Test.YtmlolkjgniodpaaProjA
import Derived.Test.YtmlolkjgniodpaaStep
set_option linter.unusedVariables false
set_option linter.unusedSimpArgs false
namespace Go.Proofs.Ytmlolkjgniodpaa
open Go.RowKit Go.ChangeMaps
attribute [-go_sem] run_neq_struct run_eql_struct run_equalIn_agg
theorem run_min_int {P : Program} (ts : Array TypeId) (ty : TypeId) (x y : Int) (w : World) : (Builtin.min_ ts ty #[.int .i64 x, .int .i64 y]).run P w = .ok (.int .i64 (if y < x then y else x)) w := by
  simp [Builtin.min_, Builtin.min2]
namespace Proj
abbrev See := XOp × XAns
def See.enc (p : See) : List Value := p.1.enc ++ p.2.enc
def sees (L : List See) : List Value := L.flatMap See.enc
def viewL (id : Int) (L : List XOp) (M : List XAns) : List See := (L.zip M).filter fun p => p.1.tenant == id
def saidL (id : Int) (L : List XOp) (M : List XAns) : List XAns := (viewL id L M).map (·.2)
theorem slSees : SlT Try.prog 25 37 12 112 := SlT.mk' (z := .agg #[.int .i64 0, .int .i64 0, .int .i64 0, .int .i64 0, .int .u64 0, .string ⟨#[]⟩, .int .i64 0, .int .u64 0, .int .i64 0, .int .i64 0, .string ⟨#[]⟩, .int .i64 0]) Try.underlying25 (by kernel_rfl) rfl (by decide)
theorem anss_snoc (L : List XAns) (x : XAns) : anss (L ++ [x]) = anss L ++ x.enc := by simp [anss]
theorem sees_snoc (L : List See) (x : See) : sees (L ++ [x]) = sees L ++ x.enc := by simp [sees]
theorem zip_get {α β : Type} {xs : List α} {ys : List β} {j : Nat} {x : α} {y : β} (h : xs[j]? = some x) (g : ys[j]? = some y) : (xs.zip ys)[j]? = some (x, y) := by
  simp [List.getElem?_zip_eq_some, h, g]
def vt (id : Int) (xs : List XOp) (ys : List XAns) (j : Nat) : List See := ((xs.zip ys).take j).filter fun p => p.1.tenant == id
theorem vt_len (id : Int) (xs : List XOp) (ys : List XAns) (j : Nat) : (vt id xs ys j).length ≤ j := by
  unfold vt
  have := List.length_filter_le (fun p : See => p.1.tenant == id) ((xs.zip ys).take j)
  have h2 := List.length_take_le j (xs.zip ys)
  omega
theorem vt_yes {id : Int} {xs : List XOp} {ys : List XAns} {j : Nat} {x : XOp} {y : XAns} (h : xs[j]? = some x) (g : ys[j]? = some y) (e : x.tenant = id) : vt id xs ys (j + 1) = vt id xs ys j ++ [(x, y)] := by
  unfold vt; rw [take_get (zip_get h g), List.filter_append]; simp [e]
theorem vt_no {id : Int} {xs : List XOp} {ys : List XAns} {j : Nat} {x : XOp} {y : XAns} (h : xs[j]? = some x) (g : ys[j]? = some y) (e : x.tenant ≠ id) : vt id xs ys (j + 1) = vt id xs ys j := by
  unfold vt; rw [take_get (zip_get h g), List.filter_append]; simp [e]
theorem vt_all {id : Int} {xs : List XOp} {ys : List XAns} {j : Nat} (h : xs.length ≤ j ∨ ys.length ≤ j) : vt id xs ys j = viewL id xs ys := by
  unfold vt viewL
  rw [List.take_of_length_le (by rw [List.length_zip]; omega)]

set_option maxRecDepth 100000 in
set_option maxHeartbeats 2000000 in
theorem said_any (w : World) (A B : Option Addr) (ca cb : Nat) (id : Int) (xs : List XOp) (ys : List XAns) (ha : Rd w A (ops xs)) (hb : Rd w B (anss ys)) (hx : xs.length ≤ 1000000) (hy : ys.length ≤ 1000000) :
    Calls Try.prog 16 #[.int .i64 id, .slice A xs.length ca, .slice B ys.length cb] w fun e w' => ∃ v, e = .returned v ∧ OutR 35 6 w.heap.size w' v (saidL id xs ys).length (anss (saidL id xs ys)) ∧ Keeps (fun _ => False) w w' := by
  obtain ⟨z, hz⟩ : ∃ z : Nat, (if (ys.length : Int) < xs.length then (ys.length : Int) else xs.length) = z := by
    split
    · exact ⟨_, rfl⟩
    · exact ⟨_, rfl⟩
  have hz2 : (z = ys.length ∧ ys.length < xs.length) ∨ (z = xs.length ∧ xs.length ≤ ys.length) := by split at hz <;> omega
  have m1 : ∀ (ts : Array TypeId) (ty : TypeId) (w : World), (Builtin.min_ ts ty #[.int .i64 xs.length, .int .i64 ys.length]).run Try.prog w = .ok (.int .i64 z) w := fun ts ty w => by rw [run_min_int, hz]
  clear hz
  go_enter Try.func16, Try.ntmps16
  go_wp2
  go_loopw [6, 13] (fun l i wr => ∃ j : Nat, j ≤ z ∧ i = .int .i64 j ∧ OutR 35 6 w.heap.size wr l (vt id xs ys j).length (anss ((vt id xs ys j).map (·.2))) ∧ Keeps (fun _ => False) w wr) (fun _ i _ => z - (intOf i).toNat)
  case atStart => exact ⟨0, Nat.zero_le _, rfl, OutR.nil _ _ _ _, Keeps.refl _ _⟩
  case round =>
    obtain ⟨j, hj, rfl, ho, kp⟩ := hrel
    by_cases hlt : j < z
    · have l1 : j < xs.length := by omega
      have l2 : j < ys.length := by omega
      obtain ⟨b, o, s, k, t, n, m, hh, d, hg, rfl, c0, c1, c2, c3, c4, c5⟩ := rop (ha.old kp) j l1
      obtain ⟨b', o', s', k', t', n', m', d', hh', hg', rfl, g0, g1, g2, g3, g4, g5⟩ := rans (hb.old kp) j l2
      have hk1 : decide ((j : Int) < z) = true := by simp; omega
      have hk2 : decide ((j : Int) < xs.length) = true := by simp; omega
      have hk3 : decide ((j : Int) < ys.length) = true := by simp; omega
      have hl := vt_len id xs ys j
      have hs4 := kp.size
      by_cases ht : t = id
      · have e1 : (t == id) = true := by simpa using ht
        have e2 : Hid _ := vt_yes hg hg' ht
        clear ht hg hg'
        generalize vt id xs ys j = L at *
        go_wp2_with (at_builtin; refine wpList_app1 slAns wr rfl _ _ rfl u6 L.length (anss (L.map (·.2))) rfl ho.1 [.int .i64 k', .int .u64 t', .int .i64 n', .int .i64 m', .string d', .int .i64 hh'] rfl rfl (by simp [Value.oneCell']) (by unfold maxLen; omega) (by omega) ?_; intro v' w5 o5 k5 at5)
        go_roundw
        case rel =>
          refine ⟨j + 1, by omega, by go_num, ?_, ho.keeps kp k5⟩
          rw [e2.out, List.length_append, List.map_append, show List.map (·.2) [((⟨k, t, n, m, hh, d⟩, ⟨k', t', n', m', d', hh'⟩) : See)] = [⟨k', t', n', m', d', hh'⟩] from rfl, anss_snoc]
          exact ho.app o5 at5 hs4
        case measure => simp [intOf]; omega
      · have e1 : (t == id) = false := by simpa using ht
        have e2 : Hid _ := vt_no hg hg' ht
        clear ht hg hg'
        generalize vt id xs ys j = L at *
        go_wp2
        go_roundw
        case rel => exact ⟨j + 1, by omega, by go_num, by rw [e2.out]; exact ho, kp⟩
        case measure => simp [intOf]; omega
    · have hk1 : decide ((j : Int) < z) = false := by simp; omega
      have hall := vt_all (id := id) (xs := xs) (ys := ys) (j := j) (by omega)
      rw [hall] at ho
      clear hall
      go_wp2
      go_ret
      refine ⟨_, rfl, ?_, kp⟩
      unfold saidL
      rw [List.length_map]
      exact ho

set_option maxRecDepth 100000 in
set_option maxHeartbeats 2000000 in
theorem view_any (w : World) (A B : Option Addr) (ca cb : Nat) (id : Int) (xs : List XOp) (ys : List XAns) (ha : Rd w A (ops xs)) (hb : Rd w B (anss ys)) (hx : xs.length ≤ 1000000) (hy : ys.length ≤ 1000000) :
    Calls Try.prog 15 #[.int .i64 id, .slice A xs.length ca, .slice B ys.length cb] w fun e w' => ∃ v, e = .returned v ∧ OutR 37 12 w.heap.size w' v (viewL id xs ys).length (sees (viewL id xs ys)) ∧ Keeps (fun _ => False) w w' := by
  go_enter Try.func15, Try.ntmps15
  go_wp2
  go_loopw [7, 8] (fun l i wr => ∃ j : Nat, j ≤ xs.length ∧ j ≤ ys.length ∧ i = .int .i64 j ∧ OutR 37 12 w.heap.size wr l (vt id xs ys j).length (sees (vt id xs ys j)) ∧ Keeps (fun _ => False) w wr) (fun _ i _ => xs.length - (intOf i).toNat)
  case atStart => exact ⟨0, Nat.zero_le _, Nat.zero_le _, rfl, OutR.nil _ _ _ _, Keeps.refl _ _⟩
  case round =>
    obtain ⟨j, hj, hj2, rfl, ho, kp⟩ := hrel
    by_cases hlt : j < xs.length ∧ j < ys.length
    · obtain ⟨l1, l2⟩ := hlt
      obtain ⟨b, o, s, k, t, n, m, hh, d, hg, rfl, c0, c1, c2, c3, c4, c5⟩ := rop (ha.old kp) j l1
      obtain ⟨b', o', s', k', t', n', m', d', hh', hg', rfl, g0, g1, g2, g3, g4, g5⟩ := rans (hb.old kp) j l2
      have hk2 : decide ((j : Int) < xs.length) = true := by simp; omega
      have hk3 : decide ((j : Int) < ys.length) = true := by simp; omega
      have hl := vt_len id xs ys j
      by_cases ht : t = id
      · have e1 : (t == id) = true := by simpa using ht
        have e2 : Hid _ := vt_yes hg hg' ht
        clear ht hg hg'
        generalize vt id xs ys j = L at *
        go_wp2
        have ho5 : OutR 37 12 w.heap.size wr.drew u7 L.length (sees L) := ho
        have kp5 : Keeps (fun _ => False) w wr.drew := kp.trans ((Keeps.refl _ _).drew)
        have hs4 := kp5.size
        go_region_law (refine step_app1 slSees wr.drew rfl _ _ rfl u7 L.length (sees L) rfl ho5.1 [.int .i64 k, .int .i64 t, .int .i64 n, .int .i64 m, .int .u64 hh, .string d, .int .i64 k', .int .u64 t', .int .i64 n', .int .i64 m', .string d', .int .i64 hh'] rfl rfl (by simp [Value.oneCell']) (by unfold maxLen; omega) (by omega) ?_; intro v' w5 o5 k5 at5)
        all_goals
          go_wp2
          go_roundw
          case rel =>
            refine ⟨j + 1, by omega, by omega, by go_num, ?_, ho5.keeps kp5 k5⟩
            rw [e2.out, List.length_append, sees_snoc]
            exact ho5.app o5 at5 hs4
          case measure => simp [intOf]; omega
      · have e1 : (t == id) = false := by simpa using ht
        have e2 : Hid _ := vt_no hg hg' ht
        clear ht hg hg'
        generalize vt id xs ys j = L at *
        go_wp2
        go_roundw
        case rel => exact ⟨j + 1, by omega, by omega, by go_num, by rw [e2.out]; exact ho, kp⟩
        case measure => simp [intOf]; omega
    · have hall := vt_all (id := id) (xs := xs) (ys := ys) (j := j) (by omega)
      rw [hall] at ho
      clear hall
      have hsp : ¬ j < xs.length ∨ (j < xs.length ∧ ¬ j < ys.length) := by omega
      clear hlt
      rcases hsp with h1 | ⟨h1, h2⟩
      · have hk1 : decide ((j : Int) < xs.length) = false := by simp; omega
        go_wp2
        go_ret
        exact ⟨_, rfl, ho, kp⟩
      · have hk1 : decide ((j : Int) < xs.length) = true := by simp; omega
        have hk2 : decide ((j : Int) < ys.length) = false := by simp; omega
        go_wp2
        go_ret
        exact ⟨_, rfl, ho, kp⟩
end Proj
end Go.Proofs.Ytmlolkjgniodpaa
