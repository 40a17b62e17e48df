/- The model package's walks: create, destroy. -/
import Derived.Test.YtagmkkddjdlncaaDoorMoR
set_option linter.unusedVariables false
set_option linter.unusedSimpArgs false
namespace Go.Proofs.YtagmkkddjdlncaaDoor
open Go.RowKit Go.ChangeMaps
namespace Mo
def ErR (w : World) (m : Nat) (M : MM) (p : Pls) (E : Int) (M' : MM) (e : Ending) (w' : World) : Prop := e = .returned (.int .i64 E) ∧ MR w m M p M' w'
/-- A part is put into its place, or taken out: the model behind it. -/
theorem MAt.place {w w1 w2 : World} {m : Nat} {M : MM} {p : Pls} (H : MAt w m M p) {i : Nat} (hi : i < 8) {Q : Option PP} {n : Nat} {b : Plc} {g : Int → Nat}
    (k1 : Keeps (fun _ => False) w w1) (k2 : Keeps (fun x => x = m) w1 w2)
    (hc : w2.heap[m]? = some (.cells (md M.Pg M.C (fun j => .pointer (if j = i then Q.map (fun _ => ⟨b.b, 0, none⟩) else ptr M p j)) (fun j => if j = i then (n : Int) else (M.s j : Int))) 51 (0, 0)))
    (hQ : ∀ P, Q = some P → PAt w2 b g P ∧ ∀ x, Fp b g P.E x → w.heap.size ≤ x) (hm : m < w.heap.size) :
    MR w m M p { M with T := upd M.T i Q, s := upd M.s i n } w2 := by
  have hT : ∀ {j P}, (upd M.T i Q) j = some P → (j = i ∧ Q = some P) ∨ (j ≠ i ∧ M.T j = some P) := by
    intro j P h
    by_cases e : j = i
    · subst e; rw [upd_same] at h; exact .inl ⟨rfl, h⟩
    · rw [upd_other _ _ e] at h; exact .inr ⟨e, h⟩
  have hfp : ∀ x, MFp m { M with T := upd M.T i Q, s := upd M.s i n } ⟨upd p.pl i b, upd p.gg i g⟩ x → MFp m M p x ∨ w.heap.size ≤ x := by
    rintro x (e | ⟨j, hj, P, hP, hx⟩)
    · exact .inl (.inl e)
    · rcases hT hP with ⟨rfl, hq⟩ | ⟨hne, hq⟩
      · right
        simp only [upd_same] at hx
        exact (hQ P hq).2 x hx
      · left
        simp only [upd_other _ _ hne] at hx
        exact .inr ⟨j, hj, P, hq, hx⟩
  refine ⟨⟨upd p.pl i b, upd p.gg i g⟩, ⟨?_, ?_, ?_, ?_, H.off⟩, (k1.mono (fun _ _ x => x.elim)).trans (k2.mono (fun x _ hx => .inl hx)), hfp⟩
  · rw [hc]
    congr 3
    · funext j
      unfold ptr
      by_cases e : j = i
      · subst e; simp only [if_true, upd_same]
      · simp only [if_neg e, upd_other _ _ e]
    · funext j
      by_cases e : j = i
      · subst e; simp only [if_true, upd_same]
      · simp only [if_neg e, upd_other _ _ e]
  · intro j hj P hP
    rcases hT hP with ⟨rfl, hq⟩ | ⟨hne, hq⟩
    · simp only [upd_same]; exact (hQ P hq).1
    · simp only [upd_other _ _ hne]
      exact ((H.part j hj P hq).old k1).keep k2 (fun x hx e => H.nm j hj P hq (e ▸ hx))
  · intro j hj P hP hx
    rcases hT hP with ⟨rfl, hq⟩ | ⟨hne, hq⟩
    · simp only [upd_same] at hx
      have := (hQ P hq).2 m hx
      omega
    · simp only [upd_other _ _ hne] at hx
      exact H.nm j hj P hq hx
  · intro j k hj hk hjk P R hP hR x hx hy
    rcases hT hP with ⟨rfl, hq⟩ | ⟨hne, hq⟩
    · rcases hT hR with ⟨rfl, hr⟩ | ⟨hne', hr⟩
      · exact hjk rfl
      · simp only [upd_same] at hx
        simp only [upd_other _ _ hne'] at hy
        have h1 := (hQ P hq).2 x hx
        have h2 := H.lt (.inr ⟨k, hk, R, hr, hy⟩)
        omega
    · rcases hT hR with ⟨rfl, hr⟩ | ⟨hne', hr⟩
      · simp only [upd_same] at hy
        simp only [upd_other _ _ hne] at hx
        have h1 := (hQ R hr).2 x hy
        have h2 := H.lt (.inr ⟨j, hj, P, hq, hx⟩)
        omega
      · simp only [upd_other _ _ hne] at hx
        simp only [upd_other _ _ hne'] at hy
        exact H.apart j k hj hk hjk P R hq hr x hx hy
set_option maxRecDepth 100000 in
set_option maxHeartbeats 2000000 in
theorem destroy_any (w : World) (m : Nat) (M : MM) (p : Pls) (i : Nat) (hi : i < 8) (H : MAt w m M p) (ok : MOk M) :
    Calls Tryd.prog 18 #[.pointer (some ⟨m, 0, none⟩), .int .i64 i] w (ErR w m M p (destroy M i).1 (destroy M i).2) := by
  have hii : (i : Int) < 8 := by omega
  have d : decide (8 ≤ i) = false := by simp; omega
  have c := cell_of H.cells (2 + i) (md_part M.Pg M.C _ _ hi)
  have cs := cell_of H.cells (10 + i) (md_ser M.Pg M.C _ _ hi)
  have fs := free_of H.cells (10 + i)
  cases hP : M.T i with
  | none =>
    have e1 : destroy M i = (6, M) := by unfold destroy; rw [hP]
    have e2 : ptr M p i = none := by unfold ptr; rw [hP]; rfl
    rw [e1]
    rw [e2] at c
    have HF := Hid.of (MR.refl H (Keeps.refl _ _))
    clear e1 e2 hP H ok cs fs hi
    go_enter Tryd.func18, Tryd.ntmps18
    go_wp2
    go_ret
    exact ⟨rfl, HF.out⟩
  | some P =>
    have e1 : destroy M i = (0, { M with T := upd M.T i none, s := upd M.s i P.C.N }) := by unfold destroy; rw [hP]
    have e2 : ptr M p i = some ⟨(p.pl i).b, 0, none⟩ := by unfold ptr; rw [hP]; rfl
    rw [e1]
    rw [e2] at c
    have A := H.part i hi P hP
    have q := Ca.serial_any w.drew (p.pl i).c P.C A.drew.caps
    have y0 := cell_of (v := .pointer (some ⟨(p.pl i).c.c, 0, none⟩)) A.cells 0 rfl
    have hnm := H.nm i hi P hP
    obtain ⟨w1, hw1⟩ : ∃ w1, w.drew.setCell ⟨m, 10 + i, none⟩ (.int .i64 P.C.N) = w1 := ⟨_, rfl⟩
    obtain ⟨w2, hw2⟩ : ∃ w2, w1.setCell ⟨m, 2 + i, none⟩ (.pointer none) = w2 := ⟨_, rfl⟩
    have h1 : w1.heap[m]? = some (.cells (md M.Pg M.C (fun i => .pointer (ptr M p i)) (fun j => if j = i then (P.C.N : Int) else (M.s j : Int))) 51 (0, 0)) := by
      have := set_of (w := w.drew) H.cells (10 + i) (.int .i64 P.C.N)
      rw [md_setser _ _ _ _ _ hi, hw1] at this
      exact this
    have c1 := cell_of h1 (2 + i) (md_part M.Pg M.C _ _ hi)
    have f1 := free_of h1 (2 + i)
    have h2 : w2.heap[m]? = some (.cells (md M.Pg M.C (fun j => .pointer (if j = i then (none : Option PP).map (fun _ => ⟨(p.pl i).b, 0, none⟩) else ptr M p j)) (fun j => if j = i then (P.C.N : Int) else (M.s j : Int))) 51 (0, 0)) := by
      have := set_of h1 (2 + i) (.pointer none)
      rw [md_setpart _ _ _ _ _ hi, hw2] at this
      rw [this]
      congr 3
      funext j
      by_cases e : j = i <;> simp [e]
    have k01 : Keeps (fun _ => False) w w.drew := (Keeps.refl _ _).drew
    have k12 : Keeps (fun x => x = m) w.drew w2 := by rw [← hw2, ← hw1]; exact (kset _ m _ _).trans (kset _ m _ _)
    have y1 := keep_cell (show Keeps (fun x => x = m) w w1 by rw [← hw1]; exact k01.mono (fun _ _ x => x.elim) |>.trans (kset _ m _ _)) (fun e => hnm (e ▸ .inl rfl)) y0
    have HF := Hid.of (MAt.place H hi (Q := none) (b := p.pl i) (g := p.gg i) k01 k12 h2 (fun P e => by cases e) (lt_of H.cells))
    clear e1 e2 hP H ok A hnm h1 h2 k01 k12 hi
    go_enter Tryd.func18, Tryd.ntmps18
    go_wp2
    go_region_held3 (fun wx => wx.cell? ⟨(p.pl i).b, 0, none⟩ = some (.pointer (some ⟨(p.pl i).c.c, 0, none⟩)))
      (first | exact y0 | exact y1)
      (first
        | (go_at_call 31; refine q.mono ?_; clear q; rintro e w3 ⟨rfl, rfl⟩))
    clear y0 y1 cs fs c
    go_wp2
    go_ret
    exact ⟨rfl, HF.out⟩
set_option maxRecDepth 100000 in
set_option maxHeartbeats 2000000 in
theorem create_any (w : World) (m : Nat) (M : MM) (p : Pls) (i : Nat) (hi : i < 8) (cc q : Int) (H : MAt w m M p) (ok : MOk M) (hT : Sh.Tab w) :
    Calls Tryd.prog 16 #[.pointer (some ⟨m, 0, none⟩), .int .i64 i, .int .i64 cc, .int .i64 q] w (ErR w m M p (create M i cc q).1 (create M i cc q).2) := by
  have hii : (i : Int) < 8 := by omega
  have d : decide (8 ≤ i) = false := by simp; omega
  have c := cell_of H.cells (2 + i) (md_part M.Pg M.C _ _ hi)
  have c0 := cell_of (v := .int .i64 M.Pg) H.cells 0 rfl
  have c1 := cell_of (v := .int .i64 M.C) H.cells 1 rfl
  cases hP : M.T i with
  | some P =>
    have e1 : create M i cc q = (7, M) := by unfold create; rw [hP]; rfl
    have e2 : ptr M p i = some ⟨(p.pl i).b, 0, none⟩ := by unfold ptr; rw [hP]; rfl
    rw [e1]
    rw [e2] at c
    have HF := Hid.of (MR.refl H (Keeps.refl _ _))
    clear e1 e2 hP H ok hi hT c0 c1
    go_enter Tryd.func16, Tryd.ntmps16
    go_wp2
    go_ret
    exact ⟨rfl, HF.out⟩
  | none =>
    have e2 : ptr M p i = none := by unfold ptr; rw [hP]; rfl
    rw [e2] at c
    have q1 := may_any w m M.C cc q c1
    have eC : create M i cc q = if may M.C cc q = false then (2, M) else if Dem.fits q (room M cc) = false then (8, M) else if free M < cc then (9, M) else (0, { M with T := upd M.T i (some (newPart i (M.s i) cc.toNat q.toNat)) }) := by
      unfold create; rw [hP, if_neg (by simp)]
    rw [eC]
    by_cases hm : may M.C cc q = false
    · rw [if_pos hm]
      rw [hm] at q1
      have HF := Hid.of (MR.refl H (Keeps.refl _ _))
      clear eC e2 hP H ok hi hT c0 c1 hm
      go_enter Tryd.func16, Tryd.ntmps16
      go_wp2_with fail
      refine q1.mono ?_
      rintro e w1 ⟨rfl, rfl⟩
      clear q1
      go_wp2
      go_ret
      exact ⟨rfl, HF.out⟩
    · rw [if_neg hm]
      have hm' : may M.C cc q = true := by simpa using hm
      obtain ⟨hq, hc1, hc2⟩ := may_iff.1 hm'
      have okC := ok.c
      obtain ⟨cn, rfl⟩ : ∃ cn : Nat, cc = cn := ⟨cc.toNat, by omega⟩
      rw [hm'] at q1
      have q2 := room_any w m M.Pg M.C cn c0 c1 ok.p.2 ok.c.1 (by omega)
      have er : ((cn * (M.Pg / M.C) : Nat) : Int) = room M cn := by unfold room; rw [Int.toNat_natCast]
      rw [er] at q2
      have q3 := fun w => Dem.fits_any w q (room M cn)
      generalize room M cn = rm at *
      by_cases hf : Dem.fits q rm = false
      · rw [if_pos hf]
        rw [hf] at q3
        have HH := Hid.of H
        clear eC e2 hP H ok hi hT c0 c1 hm hm' er hf okC
        go_enter Tryd.func16, Tryd.ntmps16
        go_wp2_with fail
        refine q1.mono ?_
        rintro e w1 ⟨rfl, rfl⟩
        clear q1
        go_wp2_with fail
        refine q2.mono ?_
        rintro e w2 ⟨rfl, k2⟩
        have q3' := q3 w2
        have HF := Hid.of (MR.refl HH.out k2)
        clear q2 q3 k2
        go_wp2_with fail
        refine q3'.mono ?_
        rintro e w3 ⟨rfl, rfl⟩
        clear q3'
        go_wp2
        go_ret
        exact ⟨rfl, HF.out⟩
      · rw [if_neg hf]
        have hf' : Dem.fits q rm = true := by simpa using hf
        rw [hf'] at q3
        have q4 := fun w' (k : Keeps (fun _ => False) w w') => free_any w' m M p (H.old k) ok
        obtain ⟨fr, hfr⟩ : ∃ fr, free M = fr := ⟨_, rfl⟩
        rw [hfr] at q4 ⊢
        by_cases hlt : fr < (cn : Int)
        · rw [if_pos hlt]
          have t1 : decide (fr < (cn : Int)) = true := by simpa using hlt
          have HH := Hid.of H
          have HQ := Hid.of q4
          clear eC e2 hP H ok hi hT c0 c1 hm hm' er hf okC q4 hfr hlt
          go_enter Tryd.func16, Tryd.ntmps16
          go_wp2_with fail
          refine q1.mono ?_
          rintro e w1 ⟨rfl, rfl⟩
          clear q1
          go_wp2_with fail
          refine q2.mono ?_
          rintro e w2 ⟨rfl, k2⟩
          have q3' := q3 w2
          have q4' := HQ.out w2 k2
          have HF := Hid.of (MR.refl HH.out k2)
          clear q2 q3 k2 HQ
          go_wp2_with fail
          refine q3'.mono ?_
          rintro e w3 ⟨rfl, rfl⟩
          clear q3'
          go_wp2_with fail
          refine q4'.mono ?_
          rintro e w3 ⟨rfl, rfl⟩
          clear q4'
          go_wp2
          go_ret
          exact ⟨rfl, HF.out⟩
        · rw [if_neg hlt]
          have t1 : decide (fr < (cn : Int)) = false := by simpa using hlt
          obtain ⟨qn, rfl⟩ : ∃ qn : Nat, q = qn := ⟨q.toNat, by omega⟩
          rw [Int.toNat_natCast, Int.toNat_natCast]
          have q5 := fun w' (k : Keeps (fun _ => False) w w') => Ca.new_any w' i (M.s i) hi (ok.s i hi).1 (ok.s i hi).2 ((hT.old k).lt)
          have HH := Hid.of H
          have HQ := Hid.of (And.intro q4 q5)
          obtain ⟨si, hsi⟩ : ∃ si, M.s i = si := ⟨_, rfl⟩
          rw [hsi] at q5 HQ ⊢
          have HT := Hid.of hT
          have HI := Hid.of (And.intro hi (And.intro hsi okC))
          clear eC e2 hP H ok hi hT c0 c1 hm hm' er hf okC q4 q5 hfr hlt hsi hc1 hc2 hq
          go_enter Tryd.func16, Tryd.ntmps16
          go_wp2_with fail
          refine q1.mono ?_
          rintro e w1 ⟨rfl, rfl⟩
          clear q1
          go_wp2_with fail
          refine q2.mono ?_
          rintro e w2 ⟨rfl, k2⟩
          have q3' := q3 w2
          have q4' := HQ.out.1 w2 k2
          have q5' := HQ.out.2 w2 k2
          have HK2 := Hid.of k2
          have cs : w2.cell? ⟨m, 10 + i, none⟩ = some (.int .i64 si) := by rw [← HI.out.2.1]; exact cell_of (HH.out.old k2).cells (10 + i) (md_ser M.Pg M.C _ _ HI.out.1)
          clear q2 q3 k2 HQ
          go_wp2_with fail
          refine q3'.mono ?_
          rintro e w3 ⟨rfl, rfl⟩
          clear q3'
          go_wp2_with fail
          refine q4'.mono ?_
          rintro e w3 ⟨rfl, rfl⟩
          clear q4'
          go_wp2_with fail
          refine q5'.mono ?_
          rintro e w5 ⟨cp, rfl, a5, f5, k5⟩
          clear q5'
          have hmm := @run_makeMap Tryd.prog
          have HA := Hid.of (And.intro a5 (And.intro f5 k5))
          clear a5 f5 k5 cs
          obtain ⟨ob, hob⟩ : ∃ ob, w5.heap.size = ob := ⟨_, rfl⟩
          obtain ⟨w6, hw6⟩ : ∃ w6, w5.alloc (.map #[] 0) = w6 := ⟨_, rfl⟩
          obtain ⟨b, hb⟩ : ∃ b, w6.heap.size = b := ⟨_, rfl⟩
          obtain ⟨w7, hw7⟩ : ∃ w7, w6.alloc (.cells #[.pointer (some ⟨cp.c, 0, none⟩), .int .i64 cn, .int .i64 qn, .int .i64 qn, .map (some ob), .int .i64 0] 58) = w7 := ⟨_, rfl⟩
          obtain ⟨w8, hw8⟩ : ∃ w8, w7.setCell ⟨m, 2 + i, none⟩ (.pointer (some ⟨b, 0, none⟩)) = w8 := ⟨_, rfl⟩
          have HF : Hid (MR w m M p { M with T := upd M.T i (some (newPart i si cn qn)) } w8 ∧ w7.cell? ⟨m, 2 + i, none⟩ = some (.pointer none) ∧ w7.frozen? ⟨m, 2 + i, none⟩ = false) := Hid.of (by
            obtain ⟨a5, f5, k5⟩ := HA.out
            obtain ⟨hi, hsi, -⟩ := HI.out
            have hml := lt_of HH.out.cells
            have K5 := HK2.out.trans k5
            have k6 : Keeps (fun _ => False) w5 w6 := by rw [← hw6]; exact (Keeps.refl _ _).alloc _
            have k7 : Keeps (fun _ => False) w6 w7 := by rw [← hw7]; exact (Keeps.refl _ _).alloc _
            have k8 : Keeps (fun x => x = m) w7 w8 := by rw [← hw8]; exact kset _ m _ _
            have K7 := (K5.trans k6).trans k7
            have s2 := HK2.out.size
            have s5 := K5.size
            have s6 := k6.size
            have hob6 : ob < w6.heap.size := by rw [← hw6, ← hob]; simp
            have m6 : EMap oenc w6 ob (tag (fun _ => 0) []) := by rw [← hw6, ← hob]; exact EMap.new _ _
            have b7 : w7.heap[b]? = some (.cells (pcells cp.c cn qn qn ob 0) 58 (0, 0)) := by rw [← hw7, ← hb]; exact alloc_new _ _
            have H7 := HH.out.old K7
            have hcf : ∀ x, Ca.Fp cp x → w2.heap.size ≤ x ∧ x < w5.heap.size := fun x hx => ⟨f5 x hx, a5.lt hx⟩
            have hmc : ¬ Ca.Fp cp m := fun hx => by have := (hcf m hx).1; omega
            have fr : ∀ x, Fp ⟨b, ob, cp⟩ (fun _ => 0) (newPart i si cn qn).E x → w.heap.size ≤ x := by
              rintro x (h | h | h | ⟨y, hy, h⟩)
              · simp only at h; omega
              · simp only at h; omega
              · have := (hcf x h).1; omega
              · exact (List.not_mem_nil (show y ∈ ([] : List (Int × MO)) from hy)).elim
            have hpt : w7.heap[m]? = some (.cells (md M.Pg M.C (fun i => .pointer (ptr M p i)) (fun i => (M.s i : Int))) 51 (0, 0)) := H7.cells
            have h8 := set_of hpt (2 + i) (.pointer (some ⟨b, 0, none⟩))
            rw [md_setpart _ _ _ _ _ hi, hw8] at h8
            have e2 : ptr M p i = none := by
              have h1 := c
              rw [cell_of HH.out.cells (2 + i) (md_part M.Pg M.C _ _ hi)] at h1
              simpa using h1
            have PA : PAt w8 ⟨b, ob, cp⟩ (fun _ => 0) (newPart i si cn qn) := by
              refine ⟨k8.at b7 (by show ¬ b = m; omega), ((a5.old k6).old k7).keep k8 (fun x hx e => hmc (e ▸ hx)), (m6.keep k7 (fun x => x)).keep k8 (by show ¬ ob = m; omega), fun x hx => (List.not_mem_nil (show x ∈ ([] : List (Int × MO)) from hx)).elim, fun x hx => (List.not_mem_nil (show x ∈ ([] : List (Int × MO)) from hx)).elim, ?_, ?_, ?_, fun x hx => (List.not_mem_nil (show x ∈ ([] : List (Int × MO)) from hx)).elim, fun h => ?_⟩
              · show b ≠ ob; omega
              · intro h; have := (hcf _ h).2; simp only at this; omega
              · intro h; have := (hcf _ h).2; simp only at this; omega
              · have := fr _ h; have := HT.out.lt; omega
            have R := MAt.place HH.out hi (Q := some (newPart i si cn qn)) (n := si) (b := ⟨b, ob, cp⟩) (g := fun _ => 0) K7 k8 (by
              rw [h8]
              congr 3
              · funext j
                by_cases e : j = i <;> simp [e]
              · funext j
                by_cases e : j = i
                · subst e; simp [hsi]
                · simp [e]) (fun P e => by cases e; exact ⟨PA, fr⟩) hml
            rw [← hsi, upd_self] at R
            rw [← hsi]
            refine ⟨R, ?_, free_of hpt (2 + i)⟩
            rw [← e2]
            exact cell_of hpt (2 + i) (md_part M.Pg M.C _ _ hi))
          obtain ⟨HR, u1, u2⟩ := HF.out
          have HF' := Hid.of HR
          clear HF HR HA HK2 HH HT HI
          go_wp2
          go_ret
          exact ⟨rfl, HF'.out⟩
end Mo
end Go.Proofs.YtagmkkddjdlncaaDoor
