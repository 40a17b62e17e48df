/- The model package's walk: make. -/
import Derived.Test.YtagmkkddjdlncaaDoorMoH
import Derived.Deep.RegionHeld3
set_option linter.unusedVariables false
set_option linter.unusedSimpArgs false
namespace Go.Proofs.YtagmkkddjdlncaaDoor
open Go.RowKit Go.ChangeMaps
namespace Mo
theorem PAt.drew {w : World} {p : Plc} {g : Int → Nat} {P : PP} (h : PAt w p g P) : PAt w.drew p g P := h.old ((Keeps.refl _ _).drew)
def MkR (w : World) (p : Plc) (g : Int → Nat) (P : PP) (h : Nat) (E : Int) (P' : PP) (e : Ending) (w' : World) : Prop := e = .returned (.tuple #[.int .u64 h, .int .i64 E]) ∧ ∃ g', PRG w p g P g' P' w' ∧ ∀ j, j ≠ (P.n : Int) → g' j = g j
set_option maxRecDepth 100000 in
set_option maxHeartbeats 1000000 in
theorem make_any (w : World) (p : Plc) (g : Int → Nat) (P : PP) (m : Int) (H : PAt w p g P) (ok : Ok P) (hT : Sh.Tab w) :
    Calls Tryd.prog 32 #[.pointer (some ⟨p.b, 0, none⟩), .int .i64 m] w (MkR w p g P (mk P m).1.1 (mk P m).1.2 (mk P m).2) := by
  have hsq := ok.sum
  have hq1 := ok.q
  have q1 := Cl.charge_any w m
  by_cases h0 : Cl.charge m = 0
  · have e : mk P m = ((0, 2), P) := by unfold mk; rw [if_pos h0]
    rw [e]
    rw [h0] at q1
    have HF : Hid (∃ g', PRG w p g P g' P w ∧ ∀ j, j ≠ (P.n : Int) → g' j = g j) := Hid.of ⟨g, ⟨H, Keeps.refl _ _, fun i hi => .inl hi⟩, fun _ _ => rfl⟩
    clear h0 e H ok hT hsq
    go_enter Tryd.func32, Tryd.ntmps32
    go_wp2_with fail
    refine q1.mono ?_
    rintro e w1 ⟨rfl, rfl⟩
    clear q1
    go_wp2
    go_ret2
    exact ⟨rfl, HF.out⟩
  · have hr := Cl.charge_ne h0
    have hcr := Cl.charge_range hr
    have q2 := charged_any w.drew p g P H.drew (by omega)
    have c2 := cell_of (v := .int .i64 P.q) H.cells 2 rfl
    by_cases hq : (P.q : Int) < sum P.E + Cl.charge m
    · have e : mk P m = ((0, 3), P) := by unfold mk; rw [if_neg h0, if_pos hq]
      rw [e]
      clear e
      generalize sum P.E = S at *
      obtain ⟨Q, hQ⟩ : ∃ Q : Int, (P.q : Int) = Q := ⟨_, rfl⟩
      rw [hQ] at c2 hq
      generalize Cl.charge m = c at *
      have t0 : (c == 0) = false := by simpa using h0
      have wr : IntKind.i64.wrap ((S : Int) + c) = S + c := IntWalk.i64_in _ (by omega)
      have HH := Hid.of H
      clear h0 H ok hT hsq hq1 hr hcr hQ
      go_enter Tryd.func32, Tryd.ntmps32
      go_wp2_with fail
      refine q1.mono ?_
      rintro e w1 ⟨rfl, rfl⟩
      clear q1
      go_wp2
      go_region_held3 (fun wx => wx.cell? ⟨p.b, 2, none⟩ = some (.int .i64 Q))
        (first | exact c2 | exact c2')
        (first
          | (go_at_call 25; refine q2.mono ?_; clear q2; rintro e w2 ⟨rfl, k2⟩; have c2' := keep_cell1 k2.of_drew c2; have HF : Hid (∃ g', PRG w p g P g' P w2 ∧ ∀ j, j ≠ (P.n : Int) → g' j = g j) := Hid.of ⟨g, ⟨HH.out.old k2.of_drew, k2.of_drew.mono (fun _ _ x => x.elim), fun i hi => .inl hi⟩, fun _ _ => rfl⟩))
      go_wp2
      go_ret2
      exact ⟨rfl, HF.out⟩
    · obtain ⟨M, rfl⟩ : ∃ M : Nat, m = M := ⟨m.toNat, by omega⟩
      obtain ⟨c, hc⟩ : ∃ c : Nat, Cl.charge (M : Int) = c := ⟨(Cl.charge (M : Int)).toNat, by omega⟩
      have mkE : mk P M = if (Ca.grant P.C P.n).1.2 = 0 then ((Ca.grant P.C P.n).1, { P with C := (Ca.grant P.C P.n).2, E := eset P.E P.n ⟨List.replicate M 0, c⟩, n := P.n + 1 })
          else ((Ca.grant P.C P.n).1, { P with C := (Ca.grant P.C P.n).2 }) := by
        unfold mk; rw [if_neg h0, if_neg hq, hc]; simp only [Int.toNat_natCast]
      rw [mkE]
      clear mkE
      rw [hc] at q1 hq h0 hcr
      have hM : M ≤ 8192 := by omega
      have c0 := cell_of (v := .pointer (some ⟨p.c.c, 0, none⟩)) H.cells 0 rfl
      have c5 := cell_of (v := .int .i64 P.n) H.cells 5 rfl
      have qg := fun w1 (k : Keeps (fun _ => False) w w1) => Ca.grant_any w1.drew p.c P.C (P.n : Int) ((H.old k).caps.old ((Keeps.refl _ _).drew)) ok.ca ((hT.old k).old ((Keeps.refl _ _).drew))
      have hnone := ok.new_none
      have hcn := ok.cn
      have hcN := ok.cN
      obtain ⟨n, hn⟩ : ∃ n : Int, (P.n : Int) = n := ⟨_, rfl⟩
      have hnr : 0 ≤ n ∧ n ≤ 17592186044416 := by omega
      obtain ⟨Q, hQ⟩ : ∃ Q : Int, (P.q : Int) = Q := ⟨_, rfl⟩
      rw [hQ] at c2 hq
      have HN := Hid.of hn
      rw [hn] at c5 qg hnone ⊢
      generalize sum P.E = S at *
      have t0 : ((c : Int) == 0) = false := by simpa using h0
      have wr : IntKind.i64.wrap ((S : Int) + c) = S + c := IntWalk.i64_in _ (by omega)
      have tq : decide (Q < (S : Int) + c) = false := by simpa using hq
      have HH := Hid.of (And.intro H hT)
      generalize (Ca.grant P.C n).2 = C' at qg ⊢
      generalize (Ca.grant P.C n).1 = r at qg ⊢
      obtain ⟨rh, rE⟩ := r
      dsimp only at qg ⊢
      have HQ := Hid.of qg
      obtain ⟨R, hR⟩ : ∃ R, (if rE = 0 then ((rh, rE), { P with C := C', E := eset P.E n ⟨List.replicate M 0, c⟩, n := P.n + 1 }) else ((rh, rE), { P with C := C' })) = R := ⟨_, rfl⟩
      rw [hR]
      have HR := Hid.of hR
      clear h0 H ok hT hsq hq1 hr hcr hQ hq hc hn hcn hcN qg hR
      go_enter Tryd.func32, Tryd.ntmps32
      go_wp2_with fail
      refine q1.mono ?_
      rintro e w1 ⟨rfl, rfl⟩
      clear q1
      go_wp2
      go_region_held3 (fun wx => wx.cell? ⟨p.b, 2, none⟩ = some (.int .i64 Q))
        (first | exact c2 | exact c2')
        (first
          | (go_at_call 25; refine q2.mono ?_; clear q2; rintro e w2 ⟨rfl, k2⟩; have c2' := keep_cell1 k2.of_drew c2; have K2 := Hid.of k2.of_drew))
      have d0 := keep_cell1 K2.out c0
      have d5 := keep_cell1 K2.out c5
      have qg2 := HQ.out w2 K2.out
      clear HQ c0 c5 c2 c2' tq wr
      go_wp2
      go_region_held3 (fun wx => wx.cell? ⟨p.b, 0, none⟩ = some (.pointer (some ⟨p.c.c, 0, none⟩)) ∧ wx.cell? ⟨p.b, 5, none⟩ = some (.int .i64 n))
        (first | exact ⟨d0, d5⟩ | exact ⟨e0, e5⟩)
        (first
          | (go_at_call 47; refine qg2.mono ?_; clear qg2; rintro e w3 ⟨rfl, a3, k3⟩; have H3 := (HH.out.1.old K2.out).caps' a3 k3.of_drew; have e0 := cell_of (v := .pointer (some ⟨p.c.c, 0, none⟩)) H3.cells 0 rfl; have e5 : w3.cell? ⟨p.b, 5, none⟩ = some (.int .i64 n) := (by rw [← HN.out]; exact cell_of H3.cells 5 rfl); have HH3 := Hid.of (And.intro H3 k3.of_drew); clear a3 k3 H3))
      by_cases hE : rE = 0
      · subst hE
        have mk2 : ∀ w, (Instr.makeSlice 61 (.int .i64 M) (.int .i64 M)).run Tryd.prog w = .ok (.slice (some ⟨w.heap.size, 0, none⟩) M M) (w.alloc (.cells (u8s (List.replicate M 0)).toArray 5)) := fun w => make_bytes w M (by omega)
        have H3 := HH3.out.1
        have c4 := cell_of (v := .map (some p.ob)) H3.cells 4 rfl
        obtain ⟨rw', hrw⟩ : ∃ r, w3.drew.heap.size = r := ⟨_, rfl⟩
        obtain ⟨w4, hw4⟩ : ∃ w4, w3.drew.alloc (.cells (u8s (List.replicate M 0)).toArray 5) = w4 := ⟨_, rfl⟩
        have k4 : Keeps (fun _ => False) w3 w4 := by rw [← hw4]; exact ((Keeps.refl _ _).drew).alloc _
        have row : BAt w4 rw' (List.replicate M 0) := by rw [← hw4, ← hrw]; exact alloc_new _ _
        have H4 := H3.old k4
        have f4 := cell_of (v := .map (some p.ob)) H4.cells 4 rfl
        have f5 : w4.cell? ⟨p.b, 5, none⟩ = some (.int .i64 n) := by rw [← HN.out]; exact cell_of H4.cells 5 rfl
        obtain ⟨w5, up, M5, k5⟩ := H4.map.upd (P := Tryd.prog) 3 Tryd.underlying56 Tryd.underlying3 n (rw', (⟨List.replicate M 0, c⟩ : MO))
        have HU := Hid.of (And.intro H3 (And.intro k4 (And.intro row (And.intro H4 (And.intro M5 k5)))))
        unfold oenc at up
        simp only [List.length_replicate] at up
        clear k4 row H3 H4 M5 k5
        go_wp2
        go_region
        clear up f4 f5 c4 e0 e5 mk2
        have HR5 : Hid (PRG w p g P (gset g n rw') { P with C := C', E := eset P.E n ⟨List.replicate M 0, c⟩ } w5) := Hid.of (by
          obtain ⟨H3, k4, row, H4, M5, k5⟩ := HU.out
          have K23 : Keeps (Fp p g P.E) w2 w3 := HH3.out.2.mono (fun x _ hx => .inr (.inr (.inl hx)))
          have K3 : Keeps (Fp p g P.E) w w3 := (K2.out.mono (fun _ _ x => x.elim)).trans K23
          have T3 : Sh.Tab w3 := HH.out.2.keep K3 HH.out.1.off
          exact PRG.trans (P1 := { P with C := C' }) K3 (fun i hi => .inl hi) (PAt.put (P := { P with C := C' }) H3 (by rw [← hrw]; exact Nat.le_refl _) k4 row M5 k5 T3))
        obtain ⟨a5, K5, F5⟩ := HR5.out
        clear HR5 HU
        have e5 : w5.cell? ⟨p.b, 5, none⟩ = some (.int .i64 n) := by rw [← HN.out]; exact cell_of a5.cells 5 rfl
        have fr5 := free_of a5.cells 5
        have hinc : wrap64 (n + 1) = n + 1 := by unfold wrap64; omega
        have A6 := a5.setn (P.n + 1)
        rw [show ((P.n + 1 : Nat) : Int) = n + 1 by have := HN.out; omega] at A6
        obtain ⟨w6, hw6⟩ : ∃ w6, w5.setCell ⟨p.b, 5, none⟩ (.int .i64 (n + 1)) = w6 := ⟨_, rfl⟩
        rw [hw6] at A6
        have hRe := HR.out
        simp only [if_true, eq_self] at hRe
        have HF : Hid (∃ g', PRG w p g P g' R.2 w6 ∧ ∀ j, j ≠ (P.n : Int) → g' j = g j) := Hid.of (by
          rw [← hRe]
          exact ⟨gset g n rw', ⟨A6, by rw [← hw6]; exact K5.setCell _ _ (.inl (.inl rfl)), F5⟩, fun j hj => gset_other _ _ _ (by rw [← HN.out]; exact hj)⟩)
        subst hRe
        clear A6 a5 K5 F5
        go_wp2
        go_ret2
        exact ⟨rfl, HF.out⟩
      · have tE : (rE == 0) = false := by simpa using hE
        have hRe := HR.out
        rw [if_neg hE] at hRe
        have HF : Hid (∃ g', PRG w p g P g' { P with C := C' } w3 ∧ ∀ j, j ≠ (P.n : Int) → g' j = g j) := Hid.of ⟨g, PRG.trans (P1 := P) (K2.out.mono (fun _ _ x => x.elim)) (fun i hi => .inl hi) ⟨HH3.out.1, HH3.out.2.mono (fun x _ hx => .inr (.inr (.inl hx))), fun i hi => .inl hi⟩, fun _ _ => rfl⟩
        subst hRe
        clear hE
        go_wp2
        go_ret2
        exact ⟨rfl, HF.out⟩
end Mo
end Go.Proofs.YtagmkkddjdlncaaDoor
