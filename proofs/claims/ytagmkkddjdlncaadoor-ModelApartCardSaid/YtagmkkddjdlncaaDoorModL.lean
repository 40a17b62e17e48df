/- The model package's walk: Copy (printed by gen_mdcopy.py). -/
import Derived.Test.YtagmkkddjdlncaaDoorModK
import Derived.Deep.MidRow
import Derived.Deep.WholeRow
set_option linter.unusedVariables false
set_option linter.unusedSimpArgs false
namespace Go.Proofs.YtagmkkddjdlncaaDoor
open Go.RowKit Go.ChangeMaps
namespace Mo
set_option maxRecDepth 100000 in
set_option maxHeartbeats 8000000 in
theorem copy_any (w : World) (m : Nat) (M : MM) (p : Pls) (H : MAt w m M p) (ok : MOk M) (hT : Sh.Tab w) :
    Calls Tryd.prog 10 #[.pointer (some ⟨m, 0, none⟩)] w (CopyR w M) := by
  obtain ⟨c, hc⟩ : ∃ c, w.heap.size = c := ⟨_, rfl⟩
  obtain ⟨MA, hMA⟩ : ∃ MA, md M.Pg M.C (fun i => .pointer (ptr M p i)) (fun i => (M.s i : Int)) = MA := ⟨_, rfl⟩
  have hcells := H.cells
  rw [hMA] at hcells
  have hsz : (Tryd.prog.info? 51).map (·.size) = some MA.size := by rw [← hMA]; kernel_rfl
  have hMs : MA.size = 18 := by rw [← hMA]; rfl
  have hone : MA.all (·.oneCell') = true := by rw [← hMA]; simp [md, Value.oneCell']
  obtain ⟨w1, hw1⟩ : ∃ w1, w.alloc (.cells MA 51) = w1 := ⟨_, rfl⟩
  have k1 : Keeps (fun _ => False) w w1 := by rw [← hw1]; exact (Keeps.refl _ _).alloc _
  have C1 : CI w c M p p 0 w1 := by
    refine ⟨?_, fun i hi => absurd hi (by omega), fun i hi => absurd hi (by omega), fun i hi => absurd hi (by omega), fun i j hi => absurd hi (by omega), by omega, k1⟩
    have : w1.heap[c]? = some (.cells (md M.Pg M.C (fun i => .pointer (ptr M p i)) (fun i => (M.s i : Int))) 51 (0, 0)) := by rw [← hw1, ← hc, hMA]; exact alloc_new _ _
    rw [this]
    rw [md_congr (q' := fun i => .pointer (if i < 0 then ptr M p i else ptr M p i)) (fun i hi => by simp)]
  have H1 := H.old k1
  have hr8 : w1.rangeAt m 2 [.pointer (ptr M p 0), .pointer (ptr M p 1), .pointer (ptr M p 2), .pointer (ptr M p 3), .pointer (ptr M p 4), .pointer (ptr M p 5), .pointer (ptr M p 6), .pointer (ptr M p 7)] := by
    intro j v hv
    have hj : j < 8 := (List.getElem?_eq_some_iff.1 hv).1
    have := cell_of H1.cells (2 + j) (md_part M.Pg M.C _ _ hj)
    rw [this, ← hv]
    rcases Cl.eight_cases hj with rfl | rfl | rfl | rfl | rfl | rfl | rfl | rfl <;> rfl
  have hx := fun (k : Nat) (hk : k < 8) (w : World) => idx8 (fun i => .pointer (ptr M p i)) (fun i => ⟨_, rfl⟩) hk w
  have HX := Hid.of hx
  have HC := Hid.of C1
  have HH := Hid.of (And.intro H (And.intro ok hT))
  have u51 := Tryd.underlying51
  have u48 := Tryd.underlying48
  have hsz8 : (Tryd.prog.info? 48).map (·.size) = some 8 := by kernel_rfl
  clear H ok hT k1 C1 H1 hx
  go_enter Tryd.func10, Tryd.ntmps10
  go_wp2_with (first
    | (refine wpList_load_row rfl 51 _ rfl m rfl 51 MA (0, 0) _ hcells u51 rfl hsz ?_)
    | (rw [← hc]; refine wpList_store_row rfl 51 _ _ rfl w.heap.size MA rfl rfl 51 _ (heap_alloc_last w _) hsz (by rw [hMs]; rfl) hone ?_; rw [World.setRow_alloc_new, hw1, hc])
    | (refine wpList_load_mid rfl 48 _ rfl m 2 rfl _ _ hr8 u48 rfl hsz8 ?_))
  clear hw1 hc hMA hsz hMs hone hcells hr8 u51 u48 hsz8
  go_loopw [18] (fun i wr => ∃ k : Nat, k ≤ 8 ∧ i = .int .i64 k ∧ ∃ p', Hid (CI w c M p p' k wr)) (fun i _ => 8 - (intOf i).toNat)
  case atStart => exact ⟨0, by omega, rfl, p, HC⟩
  case round =>
    clear HC
    obtain ⟨k, hk, rfl, p', HI⟩ := hrel
    obtain ⟨wo, rfl⟩ : ∃ z, z = wr := ⟨_, rfl⟩
    by_cases hlt : k < 8
    · have hki : (k : Int) < 8 := by omega
      have hdk : decide (8 ≤ k) = false := by simp; omega
      have ix := HX.out k hlt wo
      try dsimp only at ix
      cases hP : M.T k with
      | none =>
        have e2 : ptr M p k = none := by unfold ptr; rw [hP]; rfl
        rw [e2] at ix
        have HI2 := Hid.of (HI.out.skip hP)
        clear hP e2 hlt HI
        go_wp2
        go_roundw
        case rel => exact ⟨k + 1, by omega, by go_num, p', HI2⟩
        case measure => simp [intOf]; omega
      | some P =>
        have e2 : ptr M p k = some ⟨(p.pl k).b, 0, none⟩ := by unfold ptr; rw [hP]; rfl
        rw [e2] at ix
        have oP := (HH.out.2.1.part k hlt P hP).1
        have A := (HH.out.1.part k hlt P hP).old HI.out.keeps
        have T := HH.out.2.2.old HI.out.keeps
        have HP := Hid.of (And.intro hP (And.intro hlt oP))
        generalize p.pl k = pl at *
        generalize p.gg k = g at *
        have a0 := cell_of (v := .pointer (some ⟨pl.c.c, 0, none⟩)) A.cells 0 rfl
        have a1 := cell_of (v := .int .i64 P.k) A.cells 1 rfl
        have a2 := cell_of (v := .int .i64 P.q) A.cells 2 rfl
        have a3 := cell_of (v := .int .i64 P.t) A.cells 3 rfl
        have a4 := cell_of (v := .map (some pl.ob)) A.cells 4 rfl
        have a5 := cell_of (v := .int .i64 P.n) A.cells 5 rfl
        obtain ⟨qb, hqb⟩ : ∃ qb, wo.heap.size = qb := ⟨_, rfl⟩
        obtain ⟨w2, hw2⟩ : ∃ w2, wo.alloc (.cells #[.pointer (some ⟨pl.c.c, 0, none⟩), .int .i64 P.k, .int .i64 P.q, .int .i64 P.t, .map (some pl.ob), .int .i64 P.n] 58) = w2 := ⟨_, rfl⟩
        have k2 : Keeps (fun _ => False) wo w2 := by rw [← hw2]; exact (Keeps.refl _ _).alloc _
        have q2 : w2.heap[qb]? = some (.cells #[.pointer (some ⟨pl.c.c, 0, none⟩), .int .i64 P.k, .int .i64 P.q, .int .i64 P.t, .map (some pl.ob), .int .i64 P.n] 58 (0, 0)) := by rw [← hw2, ← hqb]; exact alloc_new _ _
        have A2 := A.old k2
        have T2 := T.old k2
        have qc := Ca.copy_any w2.drew pl.c P.C A2.drew.caps (T2.old ((Keeps.refl _ _).drew))
        have b0 := cell_of (v := .pointer (some ⟨pl.c.c, 0, none⟩)) A2.cells 0 rfl
        have b4 := cell_of (v := .map (some pl.ob)) A2.cells 4 rfl
        have HA := Hid.of (And.intro A2 (And.intro q2 (And.intro k2 (And.intro hqb A))))
        clear hP e2 hlt oP A T A2 T2 q2 k2
        go_wp2
        go_region_held3 (fun wx => wx.cell? ⟨pl.b, 0, none⟩ = some (.pointer (some ⟨pl.c.c, 0, none⟩)) ∧ wx.cell? ⟨pl.b, 4, none⟩ = some (.map (some pl.ob)))
          (first | exact ⟨b0, b4⟩ | exact ⟨d0, d4⟩ | exact ⟨e0, e4⟩ | exact ⟨f0, f4⟩ | exact ⟨g0, g4⟩)
          (first
            | (go_at_call 20; refine qc.mono ?_; clear qc; rintro e w3 ⟨cp, rfl, a3', f3, k3⟩; have A3 := HA.out.1.old k3.of_drew; have d0 := cell_of (v := .pointer (some ⟨pl.c.c, 0, none⟩)) A3.cells 0 rfl; have d4 := cell_of (v := .map (some pl.ob)) A3.cells 4 rfl; have qm := clone_any w3 pl.ob (tag g P.E) A3.map; have H3 := Hid.of (And.intro a3' (And.intro f3 k3.of_drew)); clear a3' f3 k3 A3)
            | (go_at_call 21; refine qm.mono ?_; clear qm; rintro e w4 ⟨ob, rfl, m4, hob, k4⟩; have A4 := HA.out.1.old (H3.out.2.2.trans k4); have e0 := cell_of (v := .pointer (some ⟨pl.c.c, 0, none⟩)) A4.cells 0 rfl; have e4 := cell_of (v := .map (some pl.ob)) A4.cells 4 rfl; have q4 := k4.at (H3.out.2.2.at HA.out.2.1 (fun x => x)) (fun x => x); have hbq : ¬ pl.b = qb := (fun e => by have := HA.out.2.2.2.2.lt (.inl rfl : Fp pl g P.E pl.b); have := HA.out.2.2.2.1; omega); obtain ⟨⟨r0, r1, r2, r3, r4, r5⟩, s0, s1, s2, s3, s4, s5⟩ := six_cells q4; have ka := kset w4 qb 0 (.pointer (some ⟨cp.c, 0, none⟩)); have kb := kset (w4.setCell ⟨qb, 0, none⟩ (.pointer (some ⟨cp.c, 0, none⟩))) qb 4 (.map (some ob)); have f0 := keep_cell ka hbq e0; have f4 := keep_cell ka hbq e4; have g0 := keep_cell kb hbq f0; have g4 := keep_cell kb hbq f4; have H4 := Hid.of (And.intro m4 (And.intro hob (And.intro k4 q4))); clear m4 hob k4 q4 A4 ka kb))
        clear b0 b4 d0 d4 e0 e4 f0 f4 g0 g4 r0 r1 r2 r3 r4 r5 s0 s1 s2 s3 s4 s5 a0 a1 a2 a3 a4 a5 hw2 ix
        obtain ⟨w5, hw5⟩ : ∃ w5, (w4.setCell ⟨qb, 0, none⟩ (.pointer (some ⟨cp.c, 0, none⟩))).setCell ⟨qb, 4, none⟩ (.map (some ob)) = w5 := ⟨_, rfl⟩
        rw [hw5]
        have q5 : w5.heap[qb]? = some (.cells (pcells cp.c P.k P.q P.t ob P.n) 58 (0, 0)) := by rw [← hw5]; exact set_of (set_of H4.out.2.2.2 0 _) 4 _
        have k5 : Keeps (fun x => x = qb) w4 w5 := by rw [← hw5]; exact (kset _ qb 0 _).trans (kset _ qb 4 _)
        have l2 : qb < w2.heap.size := lt_of HA.out.2.1
        have l23 : w2.heap.size ≤ w3.heap.size := H3.out.2.2.size
        have lob : ob = w3.heap.size := H4.out.2.1
        have lob4 : ob < w4.heap.size := H4.out.1.lt
        have s45 := k5.size
        have m5 := H4.out.1.keep k5 (by show ¬ ob = qb; omega)
        obtain ⟨w6, rg, R6, k6⟩ := m5.range (P := Tryd.prog) Tryd.underlying56
        obtain ⟨r, hr⟩ : ∃ r, w5.heap.size = r := ⟨_, rfl⟩
        rw [hr] at rg R6
        have lr : r < w6.heap.size := R6.lt
        have e5 := cell_of (v := .map (some ob)) q5 4 rfl
        have e6 := keep_cell1 k6 e5
        obtain ⟨W, hW⟩ : ∃ W, w6.heap.size = W := ⟨_, rfl⟩
        have D6 : DI W w6 ob r g g P P.E w6 := ⟨R6, fun x hx => hx, HP.out.2.2.nd, fun x hx hk => absurd (Ca.keysOf_mem hx) hk, fun x hx y hy hk => absurd (Ca.keysOf_mem hx) hk, Keeps.refl _ _⟩
        have HD6 := Hid.of D6
        have H5 := Hid.of (And.intro q5 (And.intro k5 (And.intro k6 (And.intro hW hr))))
        have HN := Hid.of (And.intro l2 (And.intro l23 (And.intro lob (And.intro lob4 (And.intro s45 lr)))))
        clear q5 k5 m5 R6 k6 D6 hW hr l2 l23 lob lob4 s45 lr hw5 hbq
        go_wp2
        clear rg e5
        go_loopw [7] (fun _ wr => ∃ (g' : Int → Rw) (Lft : List (Int × MO)), Hid (DI W w6 ob r g g' P Lft wr)) (fun _ wr => wr.rangeLeft ob r)
        case atStart => exact ⟨g, P.E, HD6⟩
        case round =>
          clear HD6
          obtain ⟨g', Lft, HD⟩ := hrel
          have hbounds : qb < ob ∧ ob < r ∧ r < W ∧ wo.heap.size = qb := by
            obtain ⟨l2, l23, lob, lob4, s45, lr⟩ := HN.out
            obtain ⟨-, -, -, hW, hr⟩ := H5.out
            have := HA.out.2.2.2.1
            omega
          rcases HD.out.rng.next Tryd.prog with ⟨hl, hn⟩ | ⟨kk, v, l1, l2, w7, hl, hn, R7, k7, he⟩
          · have hL : Lft = [] := by
              cases Lft with
              | nil => rfl
              | cons a b => simp [tag] at hl
            subst hL
            have HE : Hid (CI w c M p ⟨upd p'.pl k ⟨qb, ob, cp⟩, upd p'.gg k g'⟩ (k + 1) (wr.setCell ⟨c, 2 + k, none⟩ (.pointer (some ⟨qb, 0, none⟩))) ∧ (∃ v, wr.cell? ⟨c, 2 + k, none⟩ = some v) ∧ wr.frozen? ⟨c, 2 + k, none⟩ = false) := Hid.of (by
              obtain ⟨q5, k5, k6, hW, hr⟩ := H5.out
              obtain ⟨b1, b2, b3, b4⟩ := hbounds
              obtain ⟨a3, f3, k3⟩ := H3.out
              obtain ⟨m4, hob, k4, q4⟩ := H4.out
              obtain ⟨hP, hk8, oP⟩ := HP.out
              have D := HD.out
              have f3' : ∀ x, Ca.Fp cp x → w2.heap.size ≤ x := f3
              have l2 := HN.out.1
              have cpr : ∀ x, Ca.Fp cp x → qb < x ∧ x < ob := fun x hx => by have := f3' x hx; have := a3.lt hx; omega
              have alln : ∀ x ∈ P.E, x.1 ∉ keysOf ([] : List (Int × MO)) := fun x hx => by simp [keysOf]
              have rows := fun x hx => D.done x hx (alln x hx)
              have hC := HI.out.keeps.size
              have PA : PAt wr ⟨qb, ob, cp⟩ g' P := by
                refine ⟨D.keeps.at (k6.at q5 (fun x => x)) (by show ¬ (qb = ob ∨ qb = r); omega), ((((a3.old k4).keep k5 (fun x hx => by have := cpr x hx; show ¬ x = qb; omega)).old k6).keep D.keeps (fun x hx => by have := cpr x hx; show ¬ (x = ob ∨ x = r); omega)), D.rng.map, fun x hx => (rows x hx).1, fun x hx y hy => D.inj x hx y hy (alln x hx) (alln y hy), ?_, ?_, ?_, ?_, ?_⟩
                · show qb ≠ ob; omega
                · intro h; have := (cpr _ h).1; simp only at this; omega
                · intro h; have := (cpr _ h).2; simp only at this; omega
                · intro x hx
                  have := (rows x hx).2
                  refine ⟨by show _ ≠ qb; omega, by show _ ≠ ob; omega, fun h => ?_⟩
                  have := (cpr _ h).2; omega
                · have ht := HH.out.2.2.lt
                  rintro (h | h | h | ⟨x, hx, h⟩)
                  · simp only at h; omega
                  · simp only at h; omega
                  · have := (cpr _ h).1; omega
                  · have := (rows x hx).2; omega
              have fr : ∀ x, Fp ⟨qb, ob, cp⟩ g' P.E x → wo.heap.size ≤ x := by
                rintro x (h | h | h | ⟨y, hy, h⟩)
                · simp only at h; omega
                · simp only at h; omega
                · have := (cpr _ h).1; omega
                · have := (rows y hy).2; omega
              have K1 : Keeps (fun _ => False) wo wr := by
                have kk1 : Keeps (fun _ => False) wo w4 := (HA.out.2.2.1.trans k3).trans k4
                have kk2 : Keeps (fun _ => False) wo w6 := (kk1.trans' k5 (fun x hx hl => by omega)).trans k6
                exact kk2.trans' D.keeps (fun x hx hl => by omega)
              have cc := (HI.out.cells)
              have ccq := K1.at cc (fun x => x)
              refine ⟨HI.out.take hk8 hP K1 PA fr (kset _ c _ _) (set_of ccq (2 + k) _), ⟨_, cell_of ccq (2 + k) (md_part M.Pg M.C _ _ hk8)⟩, free_of ccq (2 + k)⟩)
            obtain ⟨CE, ⟨v0, hv0⟩, hf0⟩ := HE.out
            obtain ⟨w11, hw11⟩ : ∃ w11, wr.setCell ⟨c, 2 + k, none⟩ (.pointer (some ⟨qb, 0, none⟩)) = w11 := ⟨_, rfl⟩
            rw [hw11] at CE
            have HCE := Hid.of CE
            clear CE HE hl HD H3 H4 H5 HN HA HP hbounds
            go_wp2
            go_roundw
            case rel => exact ⟨k + 1, by omega, by go_num, _, HCE⟩
            case measure => simp [intOf]; omega
          · obtain ⟨vr, o⟩ := v
            obtain ⟨LA, LB, hLft, hvr, hl1, hl2⟩ := tag_split hl
            simp only at hLft hvr
            subst hLft hl1 hl2 hvr
            have hmem : (kk, o) ∈ P.E := HD.out.sub _ (by simp)
            have hsz := HP.out.2.2.sz _ hmem
            simp only at hsz
            have row7 : BAt w7 (g kk).b o.bs (g kk).t ∧ (g kk).b < qb := by
              obtain ⟨q5, k5, k6, hW, hr⟩ := H5.out
              obtain ⟨b1, b2, b3, b4⟩ := hbounds
              have r0 : BAt wo (g kk).b o.bs (g kk).t := HA.out.2.2.2.2.rows _ hmem
              have l0 := r0.lt
              have r4 := ((r0.keep HA.out.2.2.1 (fun x => x)).keep H3.out.2.2 (fun x => x)).keep H4.out.2.2.1 (fun x => x)
              have r6 := (r4.keep k5 (by show ¬ (g kk).b = qb; omega)).keep k6 (fun x => x)
              exact ⟨(r6.keep HD.out.keeps (by show ¬ ((g kk).b = ob ∨ (g kk).b = r); omega)).keep k7 (by show ¬ (g kk).b = r; omega), by omega⟩
            obtain ⟨n, hnl⟩ : ∃ n, o.bs.length = n := ⟨_, rfl⟩
            obtain ⟨cap, hcap⟩ : ∃ cap, n + (g kk).t.length = cap := ⟨_, rfl⟩
            unfold oenc at hn he
            dsimp only at hn he
            rw [hnl, hcap] at hn he
            obtain ⟨z, hz⟩ : ∃ z, w7.heap.size = z := ⟨_, rfl⟩
            obtain ⟨w8, hw8⟩ : ∃ w8, w7.alloc (.cells #[.slice (some ⟨(g kk).b, 0, none⟩) n cap, .int .i64 o.cost] 63) = w8 := ⟨_, rfl⟩
            have k8 : Keeps (fun _ => False) w7 w8 := by rw [← hw8]; exact (Keeps.refl _ _).alloc _
            have z8 : w8.heap[z]? = some (.cells #[.slice (some ⟨(g kk).b, 0, none⟩) n cap, .int .i64 o.cost] 63 (0, 0)) := by rw [← hw8, ← hz]; exact alloc_new _ _
            have e7 : w7.cell? ⟨qb, 4, none⟩ = some (.map (some ob)) := by
              obtain ⟨b1, b2, b3, b4⟩ := hbounds
              exact keep_cell k7 (by show ¬ qb = r; omega) (keep_cell HD.out.keeps (by show ¬ (qb = ob ∨ qb = r); omega) e6)
            have e8 := keep_cell1 k8 e7
            have y0 := cell_of (v := .slice (some ⟨(g kk).b, 0, none⟩) n cap) z8 0 rfl
            have y1 := cell_of (v := .int .i64 o.cost) z8 1 rfl
            have q := bclone_any w8.drew ⟨(g kk).b, 0, none⟩ n cap o.bs hnl (by omega) ((row7.1.keep k8 (fun x => x)).rd0) (by omega)
            have R8 := R7.keep k8 (fun x => x) (fun x => x)
            have hzb : ¬ qb = z ∧ ¬ ob = z := by
              obtain ⟨b1, b2, b3, b4⟩ := hbounds
              have := R7.map.lt
              omega
            have HS := Hid.of (And.intro R8 (And.intro k7 (And.intro k8 (And.intro z8 (And.intro hmem (And.intro hl hnl))))))
            clear R7 R8 k7 k8 z8 row7 hmem hl hsz
            go_wp2
            clear hn he e7
            go_region_held3 (fun wx => wx.cell? ⟨qb, 4, none⟩ = some (.map (some ob)) ∧ wx.cell? ⟨z, 0, none⟩ = some (.slice (some ⟨(g kk).b, 0, none⟩) n cap) ∧ wx.cell? ⟨z, 1, none⟩ = some (.int .i64 o.cost))
              (first | exact ⟨e8, y0, y1⟩ | exact ⟨e9, y0', y1'⟩ | exact ⟨f9, x0', x1'⟩)
              (first
                | (go_at_call 22; refine q.mono ?_; clear q; rintro e w9 ⟨row, tl, rfl, brow, hlo, k9⟩; have e9 := keep_cell1 k9.of_drew e8; have y0' := keep_cell1 k9.of_drew y0; have y1' := keep_cell1 k9.of_drew y1; have R9 := HS.out.1.keep k9.of_drew (fun x => x) (fun x => x); obtain ⟨w10, up, R10, k10⟩ := R9.update (P := Tryd.prog) 3 Tryd.underlying56 Tryd.underlying3 kk ((⟨row, tl⟩ : Rw), o) (by rw [eget_tag, Ca.mem_nodup HP.out.2.2.nd HS.out.2.2.2.2.1]; rfl) (fun x hx => by rw [tag_app] at hx; obtain ⟨y, hy, rfl⟩ := List.mem_map.1 hx; exact fun e => (keys_mid HD.out.nd).1 (by have hk := Ca.keysOf_mem hy; rw [show y.1 = kk from e] at hk; exact hk)); have f9 := keep_cell k10 (by have := hbounds.1; show ¬ qb = ob; omega) e9; have x0' := keep_cell k10 (by have := hzb.2; show ¬ z = ob; omega) y0'; have x1' := keep_cell k10 (by have := hzb.2; show ¬ z = ob; omega) y1'; have HU := Hid.of (And.intro brow (And.intro hlo (And.intro k9.of_drew (And.intro R10 k10)))); unfold oenc at up; dsimp only at up; rw [HS.out.2.2.2.2.2.2] at up; clear brow hlo k9 R9 R10 k10))
            have HD2 : Hid (DI W w6 ob r g (gset g' kk ⟨row, tl⟩) P (LA ++ LB) w10 ∧ w10.rangeLeft ob r < wr.rangeLeft ob r) := Hid.of (by
              obtain ⟨brow, hlo, k9, R10, k10⟩ := HU.out
              obtain ⟨R8, k7, k8, z8, hmem, hl, hnl⟩ := HS.out
              obtain ⟨b1, b2, b3, b4⟩ := hbounds
              rw [tag_app] at R10
              have s8 := k8.size
              have hlo' : w8.heap.size ≤ row := hlo
              refine ⟨HD.out.step HP.out.2.2 (by have := H5.out.2.2.2.1; omega) b3 (by omega) k7 (k8.trans k9) brow (by omega) R10 k10, ?_⟩
              rw [R10.left_eq, HD.out.rng.left_eq, tag_length, tag_length]
              simp)
            clear HU HS f9 x0' x1' e9 y0' y1' e8 y0 y1 up hzb
            go_wp2
            go_roundw
            case rel => exact ⟨_, _, Hid.of HD2.out.1⟩
            case measure => exact HD2.out.2
    · obtain rfl : k = 8 := by omega
      have HF := Hid.of (HI.out.out HH.out.2.2)
      clear HI
      go_wp2
      go_ret
      exact HF.out
end Mo
end Go.Proofs.YtagmkkddjdlncaaDoor
