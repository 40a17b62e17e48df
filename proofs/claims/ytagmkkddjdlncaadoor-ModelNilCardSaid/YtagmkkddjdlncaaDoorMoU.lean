/- The model package's walk: resize. -/
import Derived.Test.YtagmkkddjdlncaaDoorMoT
set_option linter.unusedVariables false
set_option linter.unusedSimpArgs false
namespace Go.Proofs.YtagmkkddjdlncaaDoor
open Go.RowKit Go.ChangeMaps
namespace Mo
theorem MR.trans {w w1 w2 : World} {m : Nat} {M M1 M2 : MM} {p p1 : Pls} (k : Keeps (MFp m M p) w w1) (hf : ∀ x, MFp m M1 p1 x → MFp m M p x ∨ w.heap.size ≤ x) (h : MR w1 m M1 p1 M2 w2) : MR w m M p M2 w2 := by
  obtain ⟨p2, A, K, F⟩ := h
  refine ⟨p2, A, k.trans' K (fun x hx hl => ?_), fun x hx => ?_⟩
  · rcases hf x hx with h | h
    · exact h
    · omega
  · rcases F x hx with h | h
    · exact hf x h
    · exact .inr (Nat.le_trans k.size h)
theorem MR.after {w w1 w2 : World} {m : Nat} {M M2 : MM} {p : Pls} (k : Keeps (fun _ => False) w w1) (h : MR w1 m M p M2 w2) : MR w m M p M2 w2 :=
  MR.trans (k.mono (fun _ _ x => x.elim)) (fun _ h => .inl h) h
/-- A part's step is the model's. -/
theorem MAt.step {w w' : World} {m : Nat} {M : MM} {p : Pls} (H : MAt w m M p) {i : Nat} (hi : i < 8) {P P' : PP} (hP : M.T i = some P) {g' : Int → Nat} (r : PRG w (p.pl i) (p.gg i) P g' P' w') : MR w m M p { M with T := upd M.T i (some P') } w' := by
  obtain ⟨A, K, F⟩ := r
  have hT : ∀ {j Q}, (upd M.T i (some P')) j = some Q → (j = i ∧ P' = Q) ∨ (j ≠ i ∧ M.T j = some Q) := by
    intro j Q h
    by_cases e : j = i
    · subst e; rw [upd_same] at h; exact .inl ⟨rfl, Option.some.inj h⟩
    · rw [upd_other _ _ e] at h; exact .inr ⟨e, h⟩
  refine ⟨⟨p.pl, upd p.gg i g'⟩, ⟨?_, ?_, ?_, ?_, H.off⟩, K.mono (fun x _ hx => .inr ⟨i, hi, P, hP, hx⟩), ?_⟩
  · have := K.at H.cells (H.nm i hi P hP)
    rw [this]
    congr 3
    funext j
    unfold ptr
    by_cases e : j = i
    · subst e; simp only [upd_same, hP]; rfl
    · simp only [upd_other _ _ e]
  · intro j hj Q hQ
    rcases hT hQ with ⟨rfl, rfl⟩ | ⟨hne, hq⟩
    · simp only [upd_same]; exact A
    · simp only [upd_other _ _ hne]
      exact (H.part j hj Q hq).keep K (fun x hx hy => H.apart j i hj hi hne Q P hq hP x hx hy)
  · intro j hj Q hQ hx
    rcases hT hQ with ⟨rfl, rfl⟩ | ⟨hne, hq⟩
    · simp only [upd_same] at hx
      rcases F m hx with h | h
      · exact H.nm j hj P hP h
      · have := lt_of H.cells; omega
    · simp only [upd_other _ _ hne] at hx
      exact H.nm j hj Q hq hx
  · intro j k hj hk hjk Q R hQ hR x hx hy
    rcases hT hQ with ⟨rfl, rfl⟩ | ⟨hne, hq⟩
    · rcases hT hR with ⟨rfl, rfl⟩ | ⟨hne', hr⟩
      · exact hjk rfl
      · simp only [upd_same] at hx
        simp only [upd_other _ _ hne'] at hy
        rcases F x hx with h | h
        · exact H.apart j k hj hk hjk P R hP hr x h hy
        · have := H.lt (.inr ⟨k, hk, R, hr, hy⟩); omega
    · rcases hT hR with ⟨rfl, rfl⟩ | ⟨hne', hr⟩
      · simp only [upd_same] at hy
        simp only [upd_other _ _ hne] at hx
        rcases F x hy with h | h
        · exact H.apart j k hj hk hjk Q P hq hP x hx h
        · have := H.lt (.inr ⟨j, hj, Q, hq, hx⟩); omega
      · simp only [upd_other _ _ hne] at hx
        simp only [upd_other _ _ hne'] at hy
        exact H.apart j k hj hk hjk Q R hq hr x hx hy
  · rintro x (e | ⟨j, hj, Q, hQ, hx⟩)
    · exact .inl (.inl e)
    · rcases hT hQ with ⟨rfl, rfl⟩ | ⟨hne, hq⟩
      · simp only [upd_same] at hx
        rcases F x hx with h | h
        · exact .inl (.inr ⟨j, hj, P, hP, h⟩)
        · exact .inr h
      · simp only [upd_other _ _ hne] at hx
        exact .inl (.inr ⟨j, hj, Q, hq, hx⟩)
theorem PAt.sets {w : World} {p : Plc} {g : Int → Nat} {P : PP} (h : PAt w p g P) (k' q' t' : Nat) :
    PRG w p g P g { P with k := k', q := q', t := t' } (((w.setCell ⟨p.b, 3, none⟩ (.int .i64 t')).setCell ⟨p.b, 1, none⟩ (.int .i64 k')).setCell ⟨p.b, 2, none⟩ (.int .i64 q')) := by
  have kp : Keeps (fun x => x = p.b) w (((w.setCell ⟨p.b, 3, none⟩ (.int .i64 t')).setCell ⟨p.b, 1, none⟩ (.int .i64 k')).setCell ⟨p.b, 2, none⟩ (.int .i64 q')) := ((kset _ p.b 3 _).trans (kset _ p.b 1 _)).trans (kset _ p.b 2 _)
  exact ⟨{ h with
    cells := set_of (set_of (set_of h.cells 3 _) 1 _) 2 _
    caps := h.caps.keep kp (fun x hx e => h.bc (e ▸ hx))
    map := h.map.keep kp (fun e => h.bo e.symm)
    rows := fun x hx => (h.rows x hx).keep kp (h.rb x hx).1 }, kp.mono (fun x _ hx => .inl hx), fun _ h => .inl h⟩
theorem nextP_any (w : World) (p : Plc) (g : Int → Nat) (P : PP) (z : Nat) (H : PAt w p g P) (ok : Ok P) :
    Calls Tryd.prog 30 #[.pointer (some ⟨p.b, 0, none⟩), .int .i64 z] w fun e w' => e = .returned (.int .i64 (nxt P z)) ∧ w = w' := by
  have hlen : (encs oenc (tag g P.E)).length = P.E.length := by simp [encs, tag]
  have q := next_any w p.b p.c.c p.ob P.k P.q P.t P.n z (encs oenc (tag g P.E)) H.cells H.map (by rw [hlen]; have := sum_len ok; omega)
  have e : next (encs oenc (tag g P.E)) P.t z = (nxt P z : Int) := by
    unfold next nxt
    rw [hlen]
    split
    · rfl
    · omega
  rw [e] at q
  exact q
set_option maxRecDepth 100000 in
set_option maxHeartbeats 2000000 in
theorem resize_any (w : World) (m : Nat) (M : MM) (p : Pls) (i : Nat) (hi : i < 8) (cc q : Int) (hcc : -9223372036854775808 ≤ cc ∧ cc ≤ 9223372036854775807) (H : MAt w m M p) (ok : MOk M) :
    Calls Tryd.prog 17 #[.pointer (some ⟨m, 0, none⟩), .int .i64 i, .int .i64 cc, .int .i64 q] w (ErR w m M p (resize M i cc q).1 (resize M i cc q).2) := by
  have hii : (i : Int) < 8 := by omega
  have d : decide (8 ≤ i) = false := by simp; omega
  have c := cell_of H.cells (2 + i) (md_part M.Pg M.C _ _ hi)
  have c0 := fun w' (k : Keeps (fun _ => False) w w') => cell_of (v := .int .i64 M.Pg) (H.old k).cells 0 rfl
  have c1 := cell_of (v := .int .i64 M.C) H.cells 1 rfl
  have c1' := fun w' (k : Keeps (fun _ => False) w w') => cell_of (v := .int .i64 M.C) (H.old k).cells 1 rfl
  cases hP : M.T i with
  | none =>
    have e1 : resize M i cc q = (6, M) := by unfold resize; rw [hP]
    have e2 : ptr M p i = none := by unfold ptr; rw [hP]; rfl
    rw [e1]
    rw [e2] at c
    have HF := Hid.of (MR.refl H (Keeps.refl _ _))
    clear e1 e2 hP H ok hi c0 c1 c1'
    go_enter Tryd.func17, Tryd.ntmps17
    go_wp2
    go_ret
    exact ⟨rfl, HF.out⟩
  | some P =>
    have e2 : ptr M p i = some ⟨(p.pl i).b, 0, none⟩ := by unfold ptr; rw [hP]; rfl
    rw [e2] at c
    have q1 := may_any w m M.C cc q c1
    have A := H.part i hi P hP
    have oP := (ok.part i hi P hP).1
    have eC : resize M i cc q = if may M.C cc q = false then (2, M) else if q < sum P.E then (3, M) else if Dem.fits (nxt P q.toNat) (room M cc) = false then (8, M) else if free M < cc - P.k then (9, M)
        else (0, { M with T := upd M.T i (some { P with k := cc.toNat, q := q.toNat, t := nxt P q.toNat }) }) := by
      unfold resize; rw [hP]
    rw [eC]
    by_cases hm : may M.C cc q = false
    · rw [if_pos hm]
      rw [hm] at q1
      have HF := Hid.of (MR.refl H (Keeps.refl _ _))
      clear eC e2 hP H ok hi c0 c1 c1' hm A oP
      go_enter Tryd.func17, Tryd.ntmps17
      go_wp2_with fail
      refine q1.mono ?_
      rintro e w1 ⟨rfl, rfl⟩
      clear q1
      go_wp2
      go_ret
      exact ⟨rfl, HF.out⟩
    · rw [if_neg hm]
      have hm' : may M.C cc q = true := by simpa using hm
      obtain ⟨hq, hc1, hc2⟩ := may_iff.1 hm'
      have okC := ok.c
      obtain ⟨cn, rfl⟩ : ∃ cn : Nat, cc = cn := ⟨cc.toNat, by omega⟩
      obtain ⟨qn, rfl⟩ : ∃ qn : Nat, q = qn := ⟨q.toNat, by omega⟩
      simp only [Int.toNat_natCast]
      rw [hm'] at q1
      have q2 := charged_any w (p.pl i) (p.gg i) P A (by have := oP.sum; have := oP.q; omega)
      by_cases hs : (qn : Int) < sum P.E
      · rw [if_pos hs]
        generalize sum P.E = S at *
        have ts : decide (qn < S) = true := by simp; omega
        have HH := Hid.of H
        clear eC e2 hP H ok hi c0 c1 c1' hm hm' A oP hs okC
        go_enter Tryd.func17, Tryd.ntmps17
        go_wp2_with fail
        refine q1.mono ?_
        rintro e w1 ⟨rfl, rfl⟩
        clear q1
        go_wp2_with fail
        refine q2.mono ?_
        rintro e w2 ⟨rfl, k2⟩
        have HF := Hid.of (MR.refl HH.out k2)
        clear q2 k2
        go_wp2
        go_ret
        exact ⟨rfl, HF.out⟩
      · rw [if_neg hs]
        have q3 := fun w' (k : Keeps (fun _ => False) w w') => nextP_any w' (p.pl i) (p.gg i) P qn (A.old k) oP
        have q4 := fun w' (k : Keeps (fun _ => False) w w') => room_any w' m M.Pg M.C cn (c0 w' k) (c1' w' k) ok.p.2 ok.c.1 (by omega)
        have er : ((cn * (M.Pg / M.C) : Nat) : Int) = room M cn := by unfold room; rw [Int.toNat_natCast]
        rw [er] at q4
        have q5 := fun w => Dem.fits_any w (nxt P qn) (room M cn)
        obtain ⟨t', ht'⟩ : ∃ t', nxt P qn = t' := ⟨_, rfl⟩
        rw [ht'] at q3 q5 ⊢
        generalize room M cn = rm at *
        generalize sum P.E = S at *
        have ts : decide (qn < S) = false := by simp; omega
        have HH := Hid.of (And.intro H (And.intro ok hi))
        have HQ := Hid.of (And.intro q3 q4)
        by_cases hf : Dem.fits t' rm = false
        · rw [if_pos hf]
          rw [hf] at q5
          clear eC e2 hP H ok hi c0 c1 c1' hm hm' A oP hs okC q3 q4 er hf ht'
          go_enter Tryd.func17, Tryd.ntmps17
          go_wp2_with fail
          refine q1.mono ?_
          rintro e w1 ⟨rfl, rfl⟩
          clear q1
          go_wp2_with fail
          refine q2.mono ?_
          rintro e w2 ⟨rfl, k2⟩
          have q3 := HQ.out.1 w2 k2
          have q4 := HQ.out.2 w2 k2
          have HK2 := Hid.of k2
          clear q2 k2 HQ
          go_wp2_with fail
          refine q3.mono ?_
          rintro e w3 ⟨rfl, rfl⟩
          clear q3
          go_wp2_with fail
          refine q4.mono ?_
          rintro e w4 ⟨rfl, k4⟩
          have q5' := q5 w4
          have HF := Hid.of (MR.refl HH.out.1 (HK2.out.trans k4))
          clear q4 k4 q5
          go_wp2_with fail
          refine q5'.mono ?_
          rintro e w5 ⟨rfl, rfl⟩
          clear q5'
          go_wp2
          go_ret
          exact ⟨rfl, HF.out⟩
        · rw [if_neg hf]
          have hf' : Dem.fits t' rm = true := by simpa using hf
          rw [hf'] at q5
          have q6 := fun w' (k : Keeps (fun _ => False) w w') => free_any w'.drew m M p ((H.old k).old ((Keeps.refl _ _).drew)) ok
          have cP := fun w' (k : Keeps (fun _ => False) w w') => cell_of (v := .int .i64 P.k) (A.old k).cells 1 rfl
          obtain ⟨fr, hfr⟩ : ∃ fr, free M = fr := ⟨_, rfl⟩
          have hk := oP.k
          have wsub : wrap64 ((cn : Int) - P.k) = (cn : Int) - P.k := by unfold wrap64; omega
          have wsub' : IntKind.i64.wrap ((cn : Int) - P.k) = (cn : Int) - P.k := IntWalk.i64_in _ (by omega)
          rw [hfr] at q6 ⊢
          have HQ6 := Hid.of (And.intro q6 cP)
          obtain ⟨R, hR⟩ : ∃ R, (if fr < (cn : Int) - P.k then ((9 : Int), M) else (0, { M with T := upd M.T i (some { P with k := cn, q := qn, t := t' }) })) = R := ⟨_, rfl⟩
          rw [hR]
          have HR := Hid.of hR
          have HP := Hid.of hP
          obtain ⟨t1, ht1⟩ : ∃ t1 : Bool, decide (fr < (cn : Int) - P.k) = t1 := ⟨_, rfl⟩
          have HT1 := Hid.of ht1
          have HA := Hid.of A
          clear eC e2 hP H ok hi c0 c1 c1' hm hm' A oP hs okC q3 q4 q6 cP er hf ht' hfr hk hR
          go_enter Tryd.func17, Tryd.ntmps17
          go_wp2_with fail
          refine q1.mono ?_
          rintro e w1 ⟨rfl, rfl⟩
          clear q1
          go_wp2_with fail
          refine q2.mono ?_
          rintro e w2 ⟨rfl, k2⟩
          have q3 := HQ.out.1 w2 k2
          have q4 := HQ.out.2 w2 k2
          have HK2 := Hid.of k2
          clear q2 k2
          go_wp2_with fail
          refine q3.mono ?_
          rintro e w3 ⟨rfl, rfl⟩
          clear q3
          go_wp2_with fail
          refine q4.mono ?_
          rintro e w4 ⟨rfl, k4⟩
          have q5' := q5 w4
          have K4 := HK2.out.trans k4
          have q6 := HQ6.out.1 w4 K4
          have cP := HQ6.out.2 w4 K4
          have HK4 := Hid.of K4
          clear q4 k4 q5 K4
          go_wp2_with fail
          refine q5'.mono ?_
          rintro e w5 ⟨rfl, rfl⟩
          clear q5'
          go_wp2
          go_region_held3 (fun wx => wx.cell? ⟨(p.pl i).b, 1, none⟩ = some (.int .i64 P.k))
            (first | exact cP)
            (first
              | (go_at_call 14; refine q6.mono ?_; clear q6; rintro e w6 ⟨rfl, rfl⟩))
          cases t1
          · have hRe := HR.out
            rw [if_neg (by simpa using HT1.out)] at hRe
            have K6 : Keeps (fun _ => False) w w4.drew := HK4.out.drew
            have A6 := HA.out.old K6
            have q7 := HQ.out.1 w4.drew K6
            have A7 := A6.sets cn qn t'
            obtain ⟨w7, hw7⟩ : ∃ w7, w4.drew.setCell ⟨(p.pl i).b, 3, none⟩ (.int .i64 t') = w7 := ⟨_, rfl⟩
            rw [hw7] at A7
            have d3 := cell_of (v := .int .i64 P.t) A6.cells 3 rfl
            have g3 := free_of A6.cells 3
            have b7 := set_of A6.cells 3 (.int .i64 t')
            rw [hw7] at b7
            have d1 := cell_of (v := .int .i64 P.k) b7 1 rfl
            have g1 := free_of b7 1
            have d2 := cell_of (v := .int .i64 P.q) b7 2 rfl
            have g2 := free_of b7 2
            have HF : Hid (MR w m M p R.2 ((w7.setCell ⟨(p.pl i).b, 1, none⟩ (.int .i64 cn)).setCell ⟨(p.pl i).b, 2, none⟩ (.int .i64 qn))) := Hid.of (by
              rw [← hRe]
              exact MR.after K6 (MAt.step (HH.out.1.old K6) HH.out.2.2 HP.out A7))
            have HR1 : Hid (R.1 = 0) := Hid.of (by rw [← hRe])
            obtain ⟨w8, hw8⟩ : ∃ w8, (w7.setCell ⟨(p.pl i).b, 1, none⟩ (.int .i64 cn)).setCell ⟨(p.pl i).b, 2, none⟩ (.int .i64 qn) = w8 := ⟨_, rfl⟩
            rw [hw8] at HF
            clear hRe K6 A6 A7 b7 HR HH HQ HQ6 HA HP cP HK4 HK2
            go_wp2_with fail
            refine q7.mono ?_
            rintro e w9 ⟨rfl, rfl⟩
            clear q7
            go_wp2
            go_ret
            refine ⟨?_, HF.out⟩
            rw [HR1.out]
            rfl
          · have hRe := HR.out
            rw [if_pos (by simpa using HT1.out)] at hRe
            have HF : Hid (MR w m M p R.2 w4.drew) := Hid.of (by rw [← hRe]; exact MR.refl HH.out.1 HK4.out.drew)
            have HR1 : Hid (R.1 = 9) := Hid.of (by rw [← hRe])
            clear hRe HR HH HQ HQ6 HA HP cP HK4 HK2
            go_wp2
            go_ret
            refine ⟨?_, HF.out⟩
            rw [HR1.out]
            rfl
end Mo
end Go.Proofs.YtagmkkddjdlncaaDoor
