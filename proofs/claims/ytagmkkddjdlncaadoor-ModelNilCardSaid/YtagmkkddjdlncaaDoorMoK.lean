/- The model package's walk: realloc. -/
import Derived.Test.YtagmkkddjdlncaaDoorMoJ
import Derived.BigQuiet
import Derived.Deep.QuietTactic
set_option linter.unusedVariables false
set_option linter.unusedSimpArgs false
namespace Go.Proofs.YtagmkkddjdlncaaDoor
open Go.RowKit Go.ChangeMaps
namespace Mo
theorem mk_ok {P : PP} {m : Int} (h : (mk P m).1.2 = 0) : ∃ C' c, (mk P m).2 = { P with C := C', E := eset P.E P.n ⟨List.replicate m.toNat 0, c⟩, n := P.n + 1 } ∧ 1 ≤ m ∧ m ≤ 8192 ∧ c = (Cl.charge m).toNat := by
  unfold mk at h ⊢
  by_cases h0 : Cl.charge m = 0
  · rw [if_pos h0] at h; simp at h
  · rw [if_neg h0] at h ⊢
    have hr := Cl.charge_ne h0
    by_cases hq : (P.q : Int) < sum P.E + Cl.charge m
    · rw [if_pos hq] at h; simp at h
    · rw [if_neg hq] at h ⊢
      by_cases hE : (Ca.grant P.C P.n).1.2 = 0
      · rw [if_pos hE]
        exact ⟨_, _, rfl, by omega, by omega, rfl⟩
      · rw [if_neg hE] at h
        exact absurd h hE
theorem take_min (l : Bs) (M : Nat) : (l.take M).length = Nat.min l.length M := by rw [List.length_take, Nat.min_comm]
def ReaR (w : World) (p : Plc) (g : Int → Nat) (P : PP) (h : Nat) (E : Int) (P' : PP) (e : Ending) (w' : World) : Prop := e = .returned (.tuple #[.int .u64 h, .int .i64 E]) ∧ PR w p g P P' w'
set_option maxRecDepth 100000 in
set_option maxHeartbeats 2000000 in
theorem realloc_any (w : World) (p : Plc) (g : Int → Nat) (P : PP) (h : Nat) (m : Int) (H : PAt w p g P) (ok : Ok P) (hT : Sh.Tab w) (hh : h < 18446744073709551616) :
    Calls Tryd.prog 35 #[.pointer (some ⟨p.b, 0, none⟩), .int .u64 h, .int .i64 m] w (ReaR w p g P (realloc P h m).1.1 (realloc P h m).1.2 (realloc P h m).2) := by
  have q := Ca.Find_any w p.c P.C h 4 H.caps hh
  have c0 := cell_of (v := .pointer (some ⟨p.c.c, 0, none⟩)) H.cells 0 rfl
  by_cases he : (Ca.Fnd P.C h 4).2 = 0
  · obtain ⟨o, ho⟩ := ok.fnd he
    have hob : obj P (Ca.Fnd P.C h 4).1 = o := by unfold obj; rw [ho]; rfl
    have hsz := ok.sz _ (eget_memE ho)
    simp only at hsz
    have hR : realloc P h m = if 0 ≤ Cl.kind m ∧ Cl.charge m ≤ o.cost then
        ((h, 0), { P with E := eset P.E (Ca.Fnd P.C h 4).1 ⟨resz o.bs m.toNat, o.cost⟩ })
      else if (mk P m).1.2 ≠ 0 then ((0, (mk P m).1.2), (mk P m).2)
      else (((mk P m).1.1, 0), drop { (mk P m).2 with E := eset (mk P m).2.E P.n ⟨resz o.bs m.toNat, (Cl.charge m).toNat⟩ } (Ca.Fnd P.C h 4).1) := by
      unfold realloc; rw [if_neg (by rw [he]; simp), hob]
    rw [hR]
    rw [he] at q
    have qo : ∀ w, Calls Tryd.prog 48 #[.int .i64 m] w fun e w' => e = .returned (.int .i64 (Cl.kind m)) ∧ w' = w := fun w => (Cl.of_any w m).mono fun e w' h => ⟨h.1, h.2.symm⟩
    have qc : ∀ w, Calls Tryd.prog 46 #[.int .i64 m] w fun e w' => e = .returned (.int .i64 (Cl.charge m)) ∧ w' = w := fun w => (Cl.charge_any w m).mono fun e w' h => ⟨h.1, h.2.symm⟩
    generalize (Ca.Fnd P.C h 4).1 = k at *
    obtain ⟨ob, oc⟩ := o
    obtain ⟨L, hL⟩ : ∃ L, ob.length = L := ⟨_, rfl⟩
    simp only at hsz
    rw [hL] at hsz
    have HH := Hid.of (And.intro H hT)
    have HO := Hid.of ho
    have HQ := Hid.of (And.intro qo qc)
    by_cases hin : 0 ≤ Cl.kind m ∧ Cl.charge m ≤ oc
    · rw [if_pos hin]
      have hm : ¬ (m < 1 ∨ 8192 < m) := by
        intro hx
        have : Cl.kind m = -1 := by unfold Cl.kind; rw [if_pos hx]
        omega
      obtain ⟨M, rfl⟩ : ∃ M : Nat, m = M := ⟨m.toNat, by omega⟩
      rw [Int.toNat_natCast]
      have hM : 1 ≤ M ∧ M ≤ 8192 := by omega
      have t1 : decide (0 ≤ Cl.kind (M : Int)) = true := by simpa using hin.1
      have t2 : decide (Cl.charge (M : Int) ≤ (oc : Int)) = true := by simpa using hin.2
      obtain ⟨R, hR'⟩ : ∃ R, resz ob M = R := ⟨_, rfl⟩
      have hRl : R.length = M := by rw [← hR']; unfold resz; rw [bput_length]; · simp
                                    · simp; omega
      have HR := Hid.of (And.intro hR' hRl)
      rw [hR']
      generalize Cl.kind (M : Int) = kd at *
      generalize Cl.charge (M : Int) = cd at *
      clear hR H ok hT he hob ho hin hm hR' hRl qo qc
      go_enter Tryd.func35, Tryd.ntmps35
      go_wp2_with fail
      refine q.mono ?_
      rintro e w1 ⟨rfl, k1⟩
      clear q
      have H1 := HH.out.1.old k1
      have lk := H1.look HO.out
      simp only at lk
      rw [hL] at lk
      have c4 := cell_of (v := .map (some p.ob)) H1.cells 4 rfl
      obtain ⟨z, hz⟩ : ∃ z, w1.heap.size = z := ⟨_, rfl⟩
      obtain ⟨w2, hw2⟩ : ∃ w2, w1.alloc (.cells #[.slice (some ⟨g k, 0, none⟩) L L, .int .i64 oc] 63) = w2 := ⟨_, rfl⟩
      have z2 : w2.heap[z]? = some (.cells #[.slice (some ⟨g k, 0, none⟩) L L, .int .i64 oc] 63 (0, 0)) := by rw [← hw2, ← hz]; exact alloc_new _ _
      have k2 : Keeps (fun _ => False) w w2 := by rw [← hw2]; exact k1.alloc _
      have y0 := cell_of (v := .slice (some ⟨g k, 0, none⟩) L L) z2 0 rfl
      have y1 := cell_of (v := .int .i64 oc) z2 1 rfl
      have HW := Hid.of (And.intro z2 k2)
      clear H1 k1 z2 k2
      go_wp2
      go_quiet (first | (go_at_call 48; exact Calls.quiet_of_same (HQ.out.1 _)) | (go_at_call 46; exact Calls.quiet_of_same (HQ.out.2 _)))
      clear lk c4 y0 y1
      obtain ⟨w3, hw3⟩ : ∃ w3, w2.drewN nq = w3 := ⟨_, rfl⟩
      have k3 : Keeps (fun _ => False) w2 w3 := by rw [← hw3]; exact (Keeps.refl _ _).drewN _
      rw [hw3]
      have z3 := k3.at HW.out.1 (fun x => x)
      have K3 := HW.out.2.trans k3
      obtain ⟨r, hr⟩ : ∃ r, w3.heap.size = r := ⟨_, rfl⟩
      have mk2 : (Instr.makeSlice 61 (.int .i64 M) (.int .i64 M)).run Tryd.prog w3 = .ok (.slice (some ⟨r, 0, none⟩) M M) (w3.alloc (.cells (u8s (List.replicate M 0)).toArray 5)) := by rw [← hr]; exact make_bytes w3 M (by omega)
      obtain ⟨w4, hw4⟩ : ∃ w4, w3.alloc (.cells (u8s (List.replicate M 0)).toArray 5) = w4 := ⟨_, rfl⟩
      rw [hw4] at mk2
      have k4 : Keeps (fun _ => False) w3 w4 := by rw [← hw4]; exact (Keeps.refl _ _).alloc _
      have row4 : BAt w4 r (List.replicate M 0) := by rw [← hw4, ← hr]; exact alloc_new _ _
      have z4 := k4.at z3 (fun x => x)
      have K4 := K3.trans k4
      have H4 := HH.out.1.old K4
      have rowk : BAt w4 (g k) ob := H4.rows _ (eget_memE HO.out)
      have hrw : w.heap.size ≤ r := by have := K3.size; omega
      obtain ⟨w5, cp, row5, k5⟩ := copy_bytes w4 r 0 M M L L (List.replicate M 0) (ob.take M) (some ⟨g k, 0, none⟩) row4 (by have := rowk.rd 0 M; simpa using this) (by simp) (by rw [take_min, hL]) (by simp; omega)
      have K5 : Keeps (fun _ => False) w w5 := K4.trans' k5 (fun x hx hlt => by omega)
      have hrz : z ≠ r := by have := (lt_of z3); omega
      have z5 := k5.at z4 hrz
      have row5' : BAt w5 r R := by rw [← HR.out.1]; exact row5
      have H5 := HH.out.1.old K5
      obtain ⟨w6, up, M6, k6⟩ := H5.map.drew.upd (P := Tryd.prog) 3 Tryd.underlying56 Tryd.underlying3 k (r, (⟨R, oc⟩ : MO))
      have HF : Hid (PR w p g P { P with E := eset P.E k ⟨R, oc⟩ } w6) := Hid.of ⟨_, PAt.put HH.out.1 hrw K5 row5' M6 k6.of_drew HH.out.2⟩
      unfold oenc at up
      simp only [HR.out.2] at up
      have d0 := cell_of (v := .slice (some ⟨g k, 0, none⟩) L L) z4 0 rfl
      have d1 := cell_of (v := .int .i64 oc) z5 1 rfl
      have d4 := cell_of (v := .map (some p.ob)) H5.cells 4 rfl
      clear HH HO HQ HR HW k3 z3 K3 hw3 hr hw4 k4 row4 z4 K4 H4 rowk hrw row5 k5 K5 hrz z5 row5' H5 M6 k6 hw2 hz t1 t2
      go_wp2
      go_region
      go_wp2
      go_ret2
      exact ⟨rfl, HF.out⟩
    · rw [if_neg hin]
      have hmk := mk_ok (P := P) (m := m)
      have qm := fun wx (kx : Keeps (fun _ => False) w wx) => make_any wx p g P m (H.old kx) ok (hT.old kx)
      have hnn := ok.new_none
      have hkn : k ≠ (P.n : Int) := by
        intro e
        rw [e, hnn] at ho
        cases ho
      generalize (mk P m).2 = P1 at *
      generalize (mk P m).1 = r1 at *
      obtain ⟨rh, rE⟩ := r1
      dsimp only at hmk qm ⊢
      obtain ⟨RR, hRR⟩ : ∃ RR, (if rE ≠ 0 then ((0, rE), P1) else ((rh, 0), drop { P1 with E := eset P1.E P.n ⟨resz ob m.toNat, (Cl.charge m).toNat⟩ } k)) = RR := ⟨_, rfl⟩
      rw [hRR]
      have HRR := Hid.of hRR
      have HM := Hid.of (And.intro hmk (And.intro hnn hkn))
      have HQM := Hid.of qm
      obtain ⟨n, hn⟩ : ∃ n : Int, (P.n : Int) = n := ⟨_, rfl⟩
      have HN := Hid.of hn
      have hc : decide (0 ≤ Cl.kind m) = false ∨ (decide (0 ≤ Cl.kind m) = true ∧ decide (Cl.charge m ≤ (oc : Int)) = false) := by
        by_cases h1 : 0 ≤ Cl.kind m
        · right
          refine ⟨by simpa using h1, ?_⟩
          have : ¬ Cl.charge m ≤ (oc : Int) := fun h2 => hin ⟨h1, h2⟩
          simpa using this
        · left; simpa using h1
      generalize Cl.kind m = kd at *
      obtain ⟨cd, hcd⟩ : ∃ cd, Cl.charge m = cd := ⟨_, rfl⟩
      rw [hcd] at hc HQ
      have HCD := Hid.of hcd
      clear hR H ok hT he hob ho hin qo qc hmk qm hRR hnn hkn hn hcd
      rcases hc with t1 | ⟨t1, t2⟩
      all_goals
        go_enter Tryd.func35, Tryd.ntmps35
        go_wp2_with fail
        refine q.mono ?_
        rintro e w1 ⟨rfl, k1⟩
        clear q
        have H1 := HH.out.1.old k1
        have lk := H1.look HO.out
        simp only at lk
        rw [hL] at lk
        have c4 := cell_of (v := .map (some p.ob)) H1.cells 4 rfl
        obtain ⟨z, hz⟩ : ∃ z, w1.heap.size = z := ⟨_, rfl⟩
        obtain ⟨w2, hw2⟩ : ∃ w2, w1.alloc (.cells #[.slice (some ⟨g k, 0, none⟩) L L, .int .i64 oc] 63) = w2 := ⟨_, rfl⟩
        have z2 : w2.heap[z]? = some (.cells #[.slice (some ⟨g k, 0, none⟩) L L, .int .i64 oc] 63 (0, 0)) := by rw [← hw2, ← hz]; exact alloc_new _ _
        have k2 : Keeps (fun _ => False) w w2 := by rw [← hw2]; exact k1.alloc _
        have hzw : w.heap.size ≤ z := by have := k1.size; omega
        have y1 := cell_of (v := .int .i64 oc) z2 1 rfl
        have HW := Hid.of (And.intro z2 (And.intro k2 hzw))
        clear H1 k1 z2 k2 hzw
        go_wp2
        go_quiet (first | (go_at_call 48; exact Calls.quiet_of_same (HQ.out.1 _)) | (go_at_call 46; exact Calls.quiet_of_same (HQ.out.2 _)))
        clear lk c4 y1
        obtain ⟨w3, hw3⟩ : ∃ w3, w2.drewN nq = w3 := ⟨_, rfl⟩
        have k3 : Keeps (fun _ => False) w2 w3 := by rw [← hw3]; exact (Keeps.refl _ _).drewN _
        rw [hw3]
        have z3 := k3.at HW.out.1 (fun x => x)
        have K3 := HW.out.2.1.trans k3
        have qm3 := HQM.out w3 K3
        have d5 : w3.cell? ⟨p.b, 5, none⟩ = some (.int .i64 n) := by rw [← HN.out]; exact cell_of (HH.out.1.old K3).cells 5 rfl
        have HZ := Hid.of (And.intro z3 K3)
        clear k3 z3 K3 hw3 hw2 hz
        go_wp2_with fail
        refine qm3.mono ?_
        rintro e w4 ⟨rfl, g4, r4, G4⟩
        have H4 : Hid (PRG w p g P g4 P1 w4 ∧ (∀ j, j ≠ (P.n : Int) → g4 j = g j) ∧ w4.heap[z]? = some (.cells #[.slice (some ⟨g k, 0, none⟩) L L, .int .i64 oc] 63 (0, 0))) := Hid.of (by
          obtain ⟨A4, K4, F4⟩ := r4
          refine ⟨PRG.trans (P1 := P) (HZ.out.2.mono (fun _ _ x => x.elim)) (fun i hi => .inl hi) ⟨A4, K4, F4⟩, G4, K4.at HZ.out.1 (fun hx => ?_)⟩
          have := HH.out.1.lt hx
          have := HW.out.2.2
          omega)
        clear r4 G4 qm3 d5 HQM HZ
        by_cases hE : rE = 0
        · subst hE
          obtain ⟨C', c, hP1, hm1, hm2, hcc⟩ := HM.out.1 rfl
          obtain ⟨M, hMM⟩ : ∃ M : Nat, m.toNat = M := ⟨_, rfl⟩
          rw [hMM] at hP1
          have hMr : 1 ≤ M ∧ M ≤ 8192 := by omega
          subst hP1
          obtain ⟨⟨A4, K4, F4⟩, G4, z4⟩ := H4.out
          have hnn := HM.out.2.1
          have hkn := HM.out.2.2
          have en : eget (eset P.E (P.n : Int) (⟨List.replicate M 0, c⟩ : MO)) (P.n : Int) = some ⟨List.replicate M 0, c⟩ := by rw [eget_eset, if_pos rfl]
          have ek : eget (eset P.E (P.n : Int) (⟨List.replicate M 0, c⟩ : MO)) k = some ⟨ob, oc⟩ := by rw [eget_eset, if_neg hkn]; exact HO.out
          have lk4 := (A4.drew).look en
          have rowd : BAt w4.drew (g4 (P.n : Int)) (List.replicate M 0) := A4.rows _ (eget_memE en)
          have rows : BAt w4.drew (g k) ob := by
            have := A4.rows _ (eget_memE ek)
            simp only at this
            rw [G4 k hkn] at this
            exact this
          rw [HN.out] at lk4 rowd
          simp only [List.length_replicate] at lk4
          obtain ⟨w5, cp, row5, k5⟩ := copy_bytes w4.drew (g4 n) 0 M M L L (List.replicate M 0) (ob.take M) (some ⟨g k, 0, none⟩) rowd (by have := rows.rd 0 M; simpa using this) (by simp) (by rw [take_min, hL]) (by simp; omega)
          have row5' : BAt w5 (g4 (P.n : Int)) (resz ob M) := by rw [HN.out]; exact row5
          have hrl : (resz ob M).length = (List.replicate M (0 : UInt8)).length := by
            unfold resz
            rw [bput_length]
            simp; omega
          obtain ⟨A5, K5, F5⟩ := A4.bytes en hrl row5' (by rw [HN.out]; exact k5.of_drew)
          have qd := drop_any w5 p g4 _ k A5
          have y0 := cell_of (v := .slice (some ⟨g k, 0, none⟩) L L) z4 0 rfl
          have y4 := cell_of (v := .map (some p.ob)) A4.cells 4 rfl
          have hRR := HRR.out
          rw [if_neg (by simp), hMM, ← hcc] at hRR
          have HK := Hid.of (And.intro (And.intro K4 F4) (And.intro K5 F5))
          have HFF : Hid (∀ w6, PR w5 p g4 { P with C := C', E := eset (eset P.E (P.n : Int) ⟨List.replicate M 0, c⟩) (P.n : Int) ⟨resz ob M, c⟩, n := P.n + 1 } (drop { P with C := C', E := eset (eset P.E (P.n : Int) ⟨List.replicate M 0, c⟩) (P.n : Int) ⟨resz ob M, c⟩, n := P.n + 1 } k) w6 → PR w p g P RR.2 w6) := Hid.of (by
            intro w6 r6
            rw [← hRR]
            refine PR.trans (P1 := { P with C := C', E := eset P.E (P.n : Int) ⟨List.replicate M 0, c⟩, n := P.n + 1 }) K4 F4 ?_
            refine PR.trans (P1 := { P with C := C', E := eset (eset P.E (P.n : Int) ⟨List.replicate M 0, c⟩) (P.n : Int) ⟨resz ob M, c⟩, n := P.n + 1 }) K5 (fun i hi => .inl (F5 i hi)) r6)
          have HR1 : Hid (RR.1 = (rh, 0)) := Hid.of (by rw [← hRR])
          clear hRR HRR H4 A4 K4 F4 G4 z4 hnn hkn en ek rowd rows row5 k5 row5' hrl A5 K5 F5 HM hcc hm1 hm2 HH HO HQ HW hMM HCD HK
          generalize ({ C := C', k := P.k, q := P.q, t := P.t, E := eset (eset P.E (P.n : Int) ⟨List.replicate M 0, c⟩) (P.n : Int) ⟨resz ob M, c⟩, n := P.n + 1 } : PP) = P2 at *
          have hfl := fld_bytes
          go_wp2
          go_region
          go_wp2_with fail
          refine qd.mono ?_
          rintro e w6 ⟨rfl, r6⟩
          have HF := Hid.of (HFF.out w6 r6)
          clear qd r6 HFF
          go_wp2
          go_ret2
          refine ⟨?_, HF.out⟩
          rw [HR1.out]
          rfl
        · have t0 : (rE != 0) = true := by simpa using hE
          have hRR := HRR.out
          rw [if_pos hE] at hRR
          have HF : Hid (PR w p g P P1 w4) := Hid.of ⟨_, H4.out.1⟩
          subst hRR
          clear hE H4 HM HH HO HQ HW
          go_wp2
          go_ret2
          exact ⟨rfl, HF.out⟩
  · have hR : realloc P h m = ((0, (Ca.Fnd P.C h 4).2), P) := by unfold realloc; rw [if_pos he]
    rw [hR]
    generalize (Ca.Fnd P.C h 4).2 = E at *
    generalize (Ca.Fnd P.C h 4).1 = k at *
    have t0 : (E != 0) = true := by simpa using he
    have HH := Hid.of H
    clear hR he ok H
    go_enter Tryd.func35, Tryd.ntmps35
    go_wp2_with fail
    refine q.mono ?_
    rintro e w1 ⟨rfl, k1⟩
    have HK := Hid.of (PR.refl HH.out k1)
    clear k1 q
    go_wp2
    go_ret2
    exact ⟨rfl, HK.out⟩
end Mo
end Go.Proofs.YtagmkkddjdlncaaDoor
