/- ScriptPrints: the walk. -/
import Derived.Test.YtmlolkjgniodpaaScsE
import Derived.Test.YtmlolkjgniodpaaScsG
set_option linter.unusedVariables false
set_option linter.unusedSimpArgs false
namespace Go.Proofs.Ytmlolkjgniodpaa
open Go.RowKit Go.ChangeMaps
attribute [-go_sem] run_index_string run_neq_struct run_eql_struct run_equalIn_agg run_string_add_if
namespace Scr
set_option maxRecDepth 100000 in
set_option maxHeartbeats 2000000 in
theorem prints_any (w : World) (A : Option Addr) (cap : Nat) (L : List Stp) (q : Nat) (hq : L.length = q) (hr : Rd w A (stps L)) (hw : ∀ x ∈ L, Num x) (hb : q ≤ maxLen) (hA : A = none → q = 0 ∧ cap = 0) :
    Calls Try.prog 11 #[.slice A q cap] w fun e w' => e = .returned (.bool true) ∧ Below w.heap.size w w' := by
  unfold maxLen at hb
  by_cases hg : 32768 < gsum L
  · have qg := fun wx (k : Keeps (fun _ => False) w wx) => great_any wx A cap L q hq (hr.old k) (by omega)
    have hgt : decide (32768 < gsum L) = true := by simpa using hg
    rw [hgt] at qg
    clear hg hgt
    go_enter Try.func11, Try.ntmps11
    go_wp2_with fail
    refine (awake_any w).mono ?_
    rintro e w1 ⟨rfl, k1⟩
    go_wp2_with fail
    refine (qg w1 k1).mono ?_
    rintro e w2 ⟨rfl, k2⟩
    go_wp2_with fail
    refine (awake_any w2).mono ?_
    rintro e w3 ⟨rfl, k3⟩
    go_wp2
    go_ret
    exact ⟨rfl, ((k1.trans k2).trans k3).below⟩
  · have qg := fun wx (k : Keeps (fun _ => False) w wx) => great_any wx A cap L q hq (hr.old k) (by omega)
    have hgt : decide (32768 < gsum L) = false := by simpa using hg
    rw [hgt] at qg
    have hfit := fit_of hw (by omega)
    have hql : q ≤ 8192 := by have := gsum_len L; omega
    have qp := fun wx A' cap' (h : Rd wx A' (stps L)) => print_any wx A' cap' L q hq h hfit (by omega)
    have qr := fun wx A' cap' (h : Rd wx A' (stps L)) => rprint_any wx A' cap' L q hq h hfit (by omega)
    obtain ⟨S, hS⟩ : ∃ S, (prt L).1 = S := ⟨_, rfl⟩
    obtain ⟨E, hE⟩ : ∃ E, (prt L).2 = E := ⟨_, rfl⟩
    rw [hS, hE] at qp qr
    clear hg hgt hS hE hfit hw
    go_enter Try.func11, Try.ntmps11
    go_wp2_with fail
    refine (awake_any w).mono ?_
    rintro e w1 ⟨rfl, k1⟩
    go_wp2_with fail
    refine (qg w1 k1).mono ?_
    rintro e w2 ⟨rfl, k2⟩
    have k12 := k1.trans k2
    have r2 := hr.old k12
    obtain ⟨w3, hw3⟩ : ∃ w3, w2.alloc (.cells #[] 108) = w3 := ⟨_, rfl⟩
    have o3 : Own w3 108 7 (.slice (some ⟨w2.heap.size, 0, none⟩) 0 0) 0 [] := by rw [← hw3]; exact own_empty _ _ _
    have k3 : Keeps (fun _ => False) w2 w3 := by rw [← hw3]; exact (Keeps.refl _ _).alloc _
    have r3 := r2.old k3
    have hsl : (stps L).length = q * 7 := by rw [stps_length, hq]
    have H12 := Hid.of k12
    have HRR := Hid.of hr
    have hsz := k12.size
    clear qg k1 k2 k12 hr r2
    go_wp2_with (at_builtin; refine wpList_appN slSteps w3 rfl _ _ rfl _ rfl o3 A q cap (stps L) rfl hA hsl r3 (one_stps L) (by unfold maxLen; omega) (by omega) ?_; intro v5 w5 o5 k5 at5)
    have hx5 : ∃ A5 c5, v5 = .slice A5 q c5 ∧ Rd w5 A5 (stps L) := by
      obtain ⟨A5, c5, h1, _, _, h4⟩ := OutR.rd (B := 0) ⟨o5, fun _ _ => Nat.zero_le _⟩
      exact ⟨A5, c5, h1, h4⟩
    obtain ⟨A5, c5, rfl, r5⟩ := hx5
    have k25 : Keeps (fun _ => False) w2 w5 := k3.trans' k5 (fun x hx hl => by have hx' : some w2.heap.size = some x := hx; injection hx' with hx'; omega)
    have K5 := H12.out.trans k25
    have ra5 := HRR.out.old K5
    have HK5 := Hid.of K5
    clear k3 k5 o3 o5 at5 K5 k25 r3 hsz hw3 HRR H12
    go_wp2_with fail
    refine (qp w5 A5 c5 r5).mono ?_
    rintro e w6 ⟨rfl, k6⟩
    have K6 := HK5.out.trans k6
    have HK6 := Hid.of K6
    have ra6 := ra5.old k6
    clear ra5 r5 HK5 k6 qp K6
    go_wp2_with fail
    refine (qr w6 A cap ra6).mono ?_
    rintro e w7 ⟨rfl, k7⟩
    have HK7 := Hid.of (HK6.out.trans k7)
    clear ra6 k7 qr HK6
    have e1 : (S == S) = true := by simp
    have e2 : (E == E) = true := by simp
    go_wp2
    go_ret
    exact ⟨rfl, HK7.out.below⟩
end Scr
end Go.Proofs.Ytmlolkjgniodpaa
