/- The caps package's walk: Revoke. -/
import Derived.Test.YtagmkkddjdlncaaDoorCaD
set_option linter.unusedVariables false
set_option linter.unusedSimpArgs false
namespace Go.Proofs.YtagmkkddjdlncaaDoor
open Go.RowKit Go.ChangeMaps
namespace Ca
/-- A slot is taken back, if it is the object's. -/
def revAt (C : Cp) (a : Int) (k : Nat) : Cp := match eget C.E (k : Int) with
  | some x => if x.a = a then (if k < 4096 then { C with E := edel C.E (k : Int), A := Sh.giveS C.A (k : Int) } else { C with E := edel C.E (k : Int), B := Sh.giveS C.B ((k : Int) - 4096) }) else C
  | none => C
def revTo (C : Cp) (a : Int) : Nat → Cp
  | 0 => C
  | k + 1 => revAt (revTo C a k) a k
def revoke (C : Cp) (a : Int) : Cp := revTo C a 4160
set_option maxRecDepth 100000 in
def rvFrame (x0 x1 x5 x6 : Value) (u : Nat → Value) : Act := { tmps := #[x0, x1, u 2, u 3, u 4, x5, x6, u 7, u 8, u 9, u 10, u 11, u 12, u 13, u 14, u 15, u 16, u 17, u 18, u 19, u 20, u 21, u 22, u 23, u 24, u 25, u 26, u 27, u 28, u 29, u 30, u 31, u 32, u 33, u 34, u 35, u 36, u 37, u 38, u 39, u 40, u 41, u 42, u 43, u 44, u 45, u 46, u 47, u 48, u 49, u 50, u 51, u 52, u 53], defers := [] }
set_option maxRecDepth 100000 in
theorem rvFrame_is (v0 v1 v2 v3 v4 v5 v6 v7 v8 v9 v10 v11 v12 v13 v14 v15 v16 v17 v18 v19 v20 v21 v22 v23 v24 v25 v26 v27 v28 v29 v30 v31 v32 v33 v34 v35 v36 v37 v38 v39 v40 v41 v42 v43 v44 v45 v46 v47 v48 v49 v50 v51 v52 v53 : Value) : ({ tmps := #[v0, v1, v2, v3, v4, v5, v6, v7, v8, v9, v10, v11, v12, v13, v14, v15, v16, v17, v18, v19, v20, v21, v22, v23, v24, v25, v26, v27, v28, v29, v30, v31, v32, v33, v34, v35, v36, v37, v38, v39, v40, v41, v42, v43, v44, v45, v46, v47, v48, v49, v50, v51, v52, v53], defers := [] } : Act) = rvFrame v0 v1 v5 v6 (fun i => #[v0, v1, v2, v3, v4, v5, v6, v7, v8, v9, v10, v11, v12, v13, v14, v15, v16, v17, v18, v19, v20, v21, v22, v23, v24, v25, v26, v27, v28, v29, v30, v31, v32, v33, v34, v35, v36, v37, v38, v39, v40, v41, v42, v43, v44, v45, v46, v47, v48, v49, v50, v51, v52, v53].getD i undef) := rfl
def RevR (w : World) (p : Pl) (C' : Cp) (e : Ending) (w' : World) : Prop := ∃ n : Int, e = .returned (.int .i64 n) ∧ At w' p C' ∧ Keeps (Fp p) w w'
set_option maxRecDepth 100000 in
set_option maxHeartbeats 800000 in
theorem revoke_any (w : World) (p : Pl) (C : Cp) (a : Int) (H : At w p C) :
    Calls Tryd.prog 49 #[.pointer (some ⟨p.c, 0, none⟩), .int .i64 a] w (RevR w p (revoke C a)) := by
  go_enter Tryd.func49, Tryd.ntmps49
  go_wp2
  refine wp_scope_once 0 (fun m a' w' => ∃ (k : Nat) (n : Int) (u : Nat → Value), m = 4160 - k ∧ k ≤ 4160 ∧ 0 ≤ n ∧ n ≤ k ∧ a' = rvFrame (.pointer (some ⟨p.c, 0, none⟩)) (.int .i64 a) (.int .i64 n) (.int .i64 k) u ∧ Hid (At w' p (revTo C a k) ∧ Keeps (Fp p) w w')) rfl ?_ ?_
  · rintro m a' w' ⟨k, n, u, rfl, hk, hn0, hnk, hf, HH⟩
    unfold rvFrame at hf
    subst hf
    by_cases hlt : k < 4160
    · have hd : decide (4160 ≤ k) = false := by simp; omega
      have hki : (k : Int) < 4160 := by omega
      have H0 := HH.out.1
      have lk := H0.map.look_ok (P := Tryd.prog) 3 Tryd.underlying78 Tryd.underlying3 (k : Int) (z := Slt.zero) (zero_slot _)
      have m0 := cell_of (v := .map (some p.m)) H0.cells 2 rfl
      cases hx : eget (revTo C a k).E (k : Int) with
      | none =>
        have hs : revTo C a (k + 1) = revTo C a k := by show revAt _ _ _ = _; unfold revAt; rw [hx]
        have HF : Hid (At (w'.alloc (.cells #[.int .i64 0, .int .i64 0, .int .i64 0] 86)) p (revTo C a (k + 1)) ∧ Keeps (Fp p) w (w'.alloc (.cells #[.int .i64 0, .int .i64 0, .int .i64 0] 86))) := Hid.of (by
          rw [hs]
          exact And.intro (H0.old ((Keeps.refl _ _).alloc _)) (HH.out.2.alloc _))
        rw [hx] at lk
        have exr : (none : Option Slt).getD Slt.zero = ⟨0, 0, 0⟩ := rfl
        have exi : (none : Option Slt).isSome = false := rfl
        rw [exr, exi] at lk
        unfold Slt.enc at lk
        dsimp only at lk
        clear hx hs H0 HH exr exi hlt
        go_wp2
        go_step3
        rw [show ((k : Int) + 1) = ((k + 1 : Nat) : Int) by omega]
        exact ⟨rfl, 4160 - (k + 1), by omega, k + 1, n, _, rfl, by omega, hn0, by omega, rvFrame_is .., HF⟩
      | some x =>
        obtain ⟨xr, xn, xa⟩ := x
        rw [hx] at lk
        have exr : (some (⟨xr, xn, xa⟩ : Slt)).getD Slt.zero = ⟨xr, xn, xa⟩ := rfl
        have exi : (some (⟨xr, xn, xa⟩ : Slt)).isSome = true := rfl
        rw [exr, exi] at lk
        unfold Slt.enc at lk
        dsimp only at lk
        obtain ⟨A, hA⟩ : ∃ A, w'.heap.size = A := ⟨_, rfl⟩
        obtain ⟨w1, hw1⟩ : ∃ w1, w'.alloc (.cells #[.int .i64 xr, .int .i64 xn, .int .i64 xa] 86) = w1 := ⟨_, rfl⟩
        have k1 : Keeps (fun _ => False) w' w1 := by rw [← hw1]; exact (Keeps.refl _ _).alloc _
        have ha1 : w1.heap[A]? = some (.cells #[.int .i64 xr, .int .i64 xn, .int .i64 xa] 86 (0, 0)) := by rw [← hw1, ← hA]; exact alloc_new _ _
        have c2 := cell_of (v := .int .i64 xa) ha1 2 rfl
        have H1 := H0.old k1
        have K1 : Keeps (Fp p) w w1 := HH.out.2.trans (k1.mono (F := fun _ => False) (G := Fp p) (fun _ _ x => x.elim))
        by_cases hxa : xa = a
        · have he : (xa == a) = true := by simpa using hxa
          obtain ⟨w2, dl, M2, k2⟩ := H1.map.del (P := Tryd.prog) (ty := 0) 3 Tryd.underlying78 Tryd.underlying3 (k : Int)
          have H2 := H1.mapped (C' := { revTo C a k with E := edel (revTo C a k).E (k : Int) }) M2 k2 rfl rfl rfl rfl
          have K2 := K1.trans (k2.mono (fun x _ hx => (.inr (.inl hx) : Fp p x)))
          have m1 := cell_of (v := .map (some p.m)) H1.cells 2 rfl
          have hinc : wrap64 (n + 1) = n + 1 := by unfold wrap64; omega
          by_cases hk4 : k < 4096
          · have hk4i : (k : Int) < 4096 := by omega
            have q := Sh.give_any w2 p.s p.v (revTo C a k).A (k : Int) H2.sa
            have e3 := cell_of (v := .pointer (some ⟨p.s, 0, none⟩)) H2.cells 3 rfl
            have hs : revTo C a (k + 1) = { revTo C a k with E := edel (revTo C a k).E (k : Int), A := Sh.giveS (revTo C a k).A (k : Int) } := by show revAt _ _ _ = _; unfold revAt; rw [hx]; dsimp only; rw [if_pos hxa, if_pos hk4]
            have HS := Hid.of hs
            have HH2 := Hid.of (And.intro H2 K2)
            clear hx hs H0 HH exr exi hlt k1 ha1 H1 K1 M2 k2 H2 K2 hxa
            go_wp2_with fail
            refine q.mono ?_
            rintro e w3 ⟨rfl, a3, k3⟩
            have HF : Hid (At w3 p (revTo C a (k + 1)) ∧ Keeps (Fp p) w w3) := Hid.of (by
              rw [HS.out]
              exact And.intro (HH2.out.1.shelfA a3 k3 rfl) (HH2.out.2.trans (k3.mono (fun x _ hx => (.inr (.inr (.inl hx)) : Fp p x)))))
            clear q a3 k3
            go_wp2
            go_step3
            rw [show ((k : Int) + 1) = ((k + 1 : Nat) : Int) by omega]
            exact ⟨rfl, 4160 - (k + 1), by omega, k + 1, n + 1, _, rfl, by omega, by omega, by omega, rvFrame_is .., HF⟩
          · have hk4i : decide (k < 4096) = false := by simp; omega
            obtain ⟨z, hz⟩ : ∃ z : Int, (k : Int) - 4096 = z := ⟨_, rfl⟩
            have hzb : 0 ≤ z ∧ z ≤ 64 := by omega
            have hwz : wrap64 z = z := by unfold wrap64; omega
            have q := Sh.give_any w2 p.u p.x (revTo C a k).B z H2.sb
            have e3 := cell_of (v := .pointer (some ⟨p.u, 0, none⟩)) H2.cells 4 rfl
            have hs : revTo C a (k + 1) = { revTo C a k with E := edel (revTo C a k).E (k : Int), B := Sh.giveS (revTo C a k).B z } := by rw [← hz]; show revAt _ _ _ = _; unfold revAt; rw [hx]; dsimp only; rw [if_pos hxa, if_neg hk4]
            have HS := Hid.of hs
            have HH2 := Hid.of (And.intro H2 K2)
            clear hx hs H0 HH exr exi hlt k1 ha1 H1 K1 M2 k2 H2 K2 hxa
            go_wp2_with fail
            refine q.mono ?_
            rintro e w3 ⟨rfl, a3, k3⟩
            have HF : Hid (At w3 p (revTo C a (k + 1)) ∧ Keeps (Fp p) w w3) := Hid.of (by
              rw [HS.out]
              exact And.intro (HH2.out.1.shelfB a3 k3 rfl) (HH2.out.2.trans (k3.mono (fun x _ hx => (.inr (.inr (.inr hx)) : Fp p x)))))
            clear q a3 k3
            go_wp2
            go_step3
            rw [show ((k : Int) + 1) = ((k + 1 : Nat) : Int) by omega]
            exact ⟨rfl, 4160 - (k + 1), by omega, k + 1, n + 1, _, rfl, by omega, by omega, by omega, rvFrame_is .., HF⟩
        · have he : (xa == a) = false := by simpa using hxa
          have hs : revTo C a (k + 1) = revTo C a k := by show revAt _ _ _ = _; unfold revAt; rw [hx]; dsimp only; rw [if_neg hxa]
          have HF : Hid (At w1 p (revTo C a (k + 1)) ∧ Keeps (Fp p) w w1) := Hid.of (by
            rw [hs]
            exact And.intro H1 K1)
          clear hx hs H0 HH exr exi hlt k1 ha1 H1 K1 hxa
          go_wp2
          go_step3
          rw [show ((k : Int) + 1) = ((k + 1 : Nat) : Int) by omega]
          exact ⟨rfl, 4160 - (k + 1), by omega, k + 1, n, _, rfl, by omega, hn0, by omega, rvFrame_is .., HF⟩
    · obtain rfl : k = 4160 := by omega
      have HF : Hid (At w' p (revoke C a) ∧ Keeps (Fp p) w w') := HH
      clear HH
      go_wp2
      simp only [Exit.jump]
      go_ret
      exact ⟨_, rfl, HF.out⟩
  · intro hr
    go_wp2
    go_step3
    refine (by assumption : ∀ (a : Act) (w : World), Code.wp _ _ _ a w → _) _ _ ?_
    exact hr _ _ _ ⟨0, 0, _, rfl, by omega, by omega, by omega, rvFrame_is .., Hid.of (And.intro H (Keeps.refl _ _))⟩
end Ca
end Go.Proofs.YtagmkkddjdlncaaDoor
