/- The model package's walk: Do (printed by gen_mdo.py). -/
import Derived.Test.YtagmkkddjdlncaaDoorMoV
set_option linter.unusedVariables false
set_option linter.unusedSimpArgs false
namespace Go.Proofs.YtagmkkddjdlncaaDoor
open Go.RowKit Go.ChangeMaps
namespace Mo
def MDoR (w : World) (m : Nat) (M : MM) (p : Pls) (a : XAns) (M' : MM) (e : Ending) (w' : World) : Prop := e = .returned (.agg a.enc.toArray) ∧ MR w m M p M' w'
theorem sizeOf_cells {w : World} {B : Nat} {o : Obj} (h : w.heap[B]? = some o) : B < w.heap.size := lt_of h
set_option maxRecDepth 100000 in
set_option maxHeartbeats 4000000 in
theorem mdo_any' (w : World) (mm : Nat) (M : MM) (p : Pls) (kind t n m : Int) (h : Nat) (d : Bs) (H : MAt w mm M p) (ok : MOk M) (hT : Sh.Tab w) (hh : h < 18446744073709551616) (hd : d.length ≤ 1000000000)
    (hn : -9223372036854775808 ≤ n ∧ n ≤ 9223372036854775807) (hm : -9223372036854775808 ≤ m ∧ m ≤ 9223372036854775807) :
    Calls Tryd.prog 9 #[.pointer (some ⟨mm, 0, none⟩), .agg #[.int .i64 kind, .int .i64 t, .int .i64 n, .int .i64 m, .int .u64 h, .string (bs d)]] w (MDoR w mm M p (mdo M ⟨kind, t, n, m, h, bs d⟩).1 (mdo M ⟨kind, t, n, m, h, bs d⟩).2) := by
  obtain ⟨A, hA⟩ : ∃ A, w.heap.size = A := ⟨_, rfl⟩
  obtain ⟨w1, hw1⟩ : ∃ w1, w.alloc (.cells #[.int .i64 kind, .int .i64 t, .int .i64 n, .int .i64 m, .int .u64 h, .string (bs d)] 34) = w1 := ⟨_, rfl⟩
  obtain ⟨B, hB⟩ : ∃ B, w1.heap.size = B := ⟨_, rfl⟩
  obtain ⟨w2, hw2⟩ : ∃ w2, w1.alloc (.cells #[.int .i64 0, .int .u64 0, .int .i64 0, .int .i64 0, .string ⟨#[]⟩, .int .i64 0] 36) = w2 := ⟨_, rfl⟩
  have k1 : Keeps (fun _ => False) w w1 := by rw [← hw1]; exact (Keeps.refl _ _).alloc _
  have k2' : Keeps (fun _ => False) w1 w2 := by rw [← hw2]; exact (Keeps.refl _ _).alloc _
  have k2 := k1.trans k2'
  have a1 : w1.heap[A]? = some (.cells #[.int .i64 kind, .int .i64 t, .int .i64 n, .int .i64 m, .int .u64 h, .string (bs d)] 34 (0, 0)) := by rw [← hw1, ← hA]; exact alloc_new _ _
  have a2 := k2'.at a1 (fun x => x)
  have b2 : w2.heap[B]? = some (.cells (acells ⟨0, 0, 0, 0, bs [], 0⟩) 36 (0, 0)) := by rw [← hw2, ← hB]; exact alloc_new _ _
  have hBw : w.heap.size ≤ B := by have := k1.size; omega
  have hAB : A < B := by have := lt_of a1; omega
  have nfA : ¬ MFp mm M p A := fun hx => by have := H.lt hx; omega
  obtain ⟨x0, x1, x2, x3, x4, x5⟩ := (six_cells a2).1
  have P2 := MB.start H k2 hBw (lt_of b2)
  have qck := Op1.check_any w2 ⟨kind, t, n, m, h, bs d⟩ (by rw [bs_size]; unfold maxLen; omega)
  unfold XOp.enc at qck
  dsimp only at qck
  have HA := Hid.of (And.intro a2 (And.intro nfA hAB))
  have HP2 := Hid.of (And.intro b2 P2)
  have HH := Hid.of (And.intro H (And.intro hT ok))
  clear k1 k2' k2 a1 a2 b2 hBw hAB nfA P2 H hT ok
  by_cases hc : Op1.chk ⟨kind, t, n, m, h, bs d⟩ = 0
  · obtain ⟨hk, ht, hds⟩ := chk_ok hc
    simp only at hk ht hds
    rw [bs_size] at hds
    obtain ⟨i, rfl⟩ : ∃ i : Nat, t = i := ⟨t.toNat, by omega⟩
    have hi : i < 8 := by omega
    have hii : (i : Int) < 8 := by omega
    have hdi : decide (8 ≤ i) = false := by simp; omega
    have e : mdo M ⟨kind, i, n, m, h, bs d⟩ = ({ (act M i kind n m h d).1 with charged := charged (act M i kind n m h d).2 i }, (act M i kind n m h d).2) := by
      unfold mdo
      rw [if_neg (by simpa using hc)]
      simp only [Int.toNat_natCast]
      rfl
    rw [e]
    have okA := HH.out.2.2.act hi kind n m h d
    rw [hc] at qck
    have HC := Hid.of hc
    have c2 : ∀ wx, Keeps (fun _ => False) w wx → wx.cell? ⟨mm, 2 + i, none⟩ = some (.pointer (ptr M p i)) := fun wx k => cell_of (HH.out.1.old k).cells (2 + i) (md_part M.Pg M.C _ _ hi)
    have KS := Hid.of (And.intro hi (And.intro okA (And.intro hds hk)))
    clear e hc ht okA hds
    have hcase : kind = 1 ∨ kind = 2 ∨ kind = 3 ∨ (4 ≤ kind ∧ M.T i = none) ∨ (4 ≤ kind ∧ ∃ P, M.T i = some P) := by
      cases hP : M.T i with
      | none => simp; omega
      | some P => simp; omega
    clear hi hk
    have HK0 : Hid (∀ w3, Keeps (fun _ => False) w2 w3 → ∃ w4, w3.setCell ⟨B, 0, none⟩ (.int .i64 0) = w4 ∧ w4.heap[B]? = some (.cells (acells ⟨0, 0, 0, 0, bs [], 0⟩) 36 (0, 0)) ∧ MB w B mm M p p M w4 ∧ w4.heap[A]? = some (.cells #[.int .i64 kind, .int .i64 i, .int .i64 n, .int .i64 m, .int .u64 h, .string (bs d)] 34 (0, 0)) ∧ Sh.Tab w4 ∧
        (w3.cell? ⟨B, 0, none⟩ = some (.int .i64 0) ∧ w3.frozen? ⟨B, 0, none⟩ = false) ∧ w4.cell? ⟨mm, 2 + i, none⟩ = some (.pointer (ptr M p i))) := Hid.of (by
      intro w3 k3
      have b3 := k3.at HP2.out.1 (fun x => x)
      have P3 := HP2.out.2.old k3
      refine ⟨_, rfl, set_of b3 0 _, P3.set (kset _ B 0 _), (kset w3 B 0 _).at (k3.at HA.out.1 (fun x => x)) (by have := HA.out.2.2; omega), (P3.set (kset _ B 0 _)).tab HH.out.1 HH.out.2.1, ⟨cell_of b3 0 rfl, free_of b3 0⟩, ?_⟩
      exact cell_of (P3.set (kset _ B 0 (.int .i64 0))).1.cells (2 + i) (md_part M.Pg M.C _ _ KS.out.1))
    rcases hcase with rfl | rfl | rfl | ⟨hk4, hP⟩ | ⟨hk4, P, hP⟩
    · have eA : act M i 1 n m h d = (⟨(create M i m n).1, 0, 0, 0, bs [], 0⟩, (create M i m n).2) := by unfold act; rw [if_pos rfl]
      rw [eA]
      have okA := KS.out.2.1
      rw [eA] at okA
      dsimp only at okA ⊢
      have hq := fun wx (HX : MAt wx mm M p) (TX : Sh.Tab wx) => create_any wx mm M p i KS.out.1 m n HX HH.out.2.2 TX
      generalize (create M i m n).2 = M' at hq okA ⊢
      generalize (create M i m n).1 = E at hq ⊢
      have HQ := Hid.of hq
      obtain ⟨ch0, hch0⟩ : ∃ ch0, charged M' i = ch0 := ⟨_, rfl⟩
      have HOK := Hid.of okA
      clear eA hq okA hch0
      go_enter Tryd.func9, Tryd.ntmps9
      go_wp2_with fail
      refine qck.mono ?_
      rintro e w3 ⟨rfl, k3⟩
      obtain ⟨w4, hw4, b4, P4, a4, T4, ⟨s0, s1⟩, cm⟩ := HK0.out w3 k3
      obtain ⟨⟨x0', x1', x2', x3', x4', x5'⟩, -⟩ := six_cells a4
      obtain ⟨⟨d0, d1, d2, d3, d4, d5⟩, g0, g1, g2, g3, g4, g5⟩ := six_cells b4
      have HP4 := Hid.of (And.intro b4 (And.intro P4 (And.intro a4 T4)))
      clear qck k3 b4 P4 a4 T4 HK0 c2
      go_wp2
      go_region
      clear s0 s1 cm
      have P4 := HP4.out.2.1.old ((Keeps.refl _ _).drew)
      have q := HQ.out w4.drew P4.1 (HP4.out.2.2.2.old ((Keeps.refl _ _).drew))
      clear P4
      go_wp2_with fail
      refine q.mono ?_
      rintro e w5 ⟨rfl, r5⟩
      clear q
      obtain ⟨p5, P5, K5⟩ := (HP4.out.2.1.old ((Keeps.refl _ _).drew)).step r5
      have nfB := HP4.out.2.1.nf
      have b5 := K5.at (show w4.drew.heap[B]? = _ from HP4.out.1) nfB
      have a5 := K5.at (show w4.drew.heap[A]? = _ from HP4.out.2.2.1) HA.out.2.1
      clear r5 K5
      obtain ⟨w6, hw6⟩ : ∃ w6, w5.setCell ⟨B, 0, none⟩ (.int .i64 E) = w6 := ⟨_, rfl⟩
      have b6 : w6.heap[B]? = some (.cells (acells ⟨E, 0, 0, 0, bs [], 0⟩) 36 (0, 0)) := by rw [← hw6]; exact set_of b5 0 _
      have k6 : Keeps (fun x => x = B) w5 w6 := by rw [← hw6]; exact kset _ B 0 _
      have P6 := P5.set k6
      have a6 := k6.at a5 (by have := HA.out.2.2; omega)
      obtain ⟨⟨d0', -, -, -, -, -⟩, g0', -, -, -, -, -⟩ := six_cells b5
      obtain ⟨⟨x0'', x1'', x2'', x3'', x4'', x5''⟩, -⟩ := six_cells a6
      have qch := chargedM_any w6 mm M' p5 i KS.out.1 P6.1 HOK.out
      have HP6 := Hid.of (And.intro b6 P6)
      clear b5 a5 P5 b6 k6 P6 a6
      go_wp2_with fail
      refine qch.mono ?_
      rintro e w7 ⟨rfl, k7⟩
      clear qch
      have b7 := k7.at HP6.out.1 (fun x => x)
      have P7 := HP6.out.2.old k7
      obtain ⟨⟨-, -, -, -, -, h5⟩, -, -, -, -, -, j5⟩ := six_cells b7
      generalize hch : charged M' i = ch at *
      obtain ⟨w8, hw8⟩ : ∃ w8, w7.setCell ⟨B, 5, none⟩ (.int .i64 ch) = w8 := ⟨_, rfl⟩
      have b8 : w8.heap[B]? = some (.cells (acells ⟨E, 0, 0, 0, (bs []), ch⟩) 36 (0, 0)) := by rw [← hw8]; exact set_of b7 5 _
      have k8 : Keeps (fun x => x = B) w7 w8 := by rw [← hw8]; exact kset _ B 5 _
      have P8 := P7.set k8
      have bb := b8
      obtain ⟨⟨c0, c1, c2, c3, c4, c5⟩, f0, f1, f2, f3, f4, f5⟩ := six_cells bb
      obtain ⟨wf, hwf⟩ : ∃ wf, (((((w8.setCell ⟨B, 0, none⟩ (.int .i64 E)).setCell ⟨B, 1, none⟩ (.int .u64 0)).setCell ⟨B, 2, none⟩ (.int .i64 0) ).setCell ⟨B, 3, none⟩ (.int .i64 0)).setCell ⟨B, 4, none⟩ (.string (bs []))).setCell ⟨B, 5, none⟩ (.int .i64 ch) = wf := ⟨_, rfl⟩
      have bf := set6 bb (.int .i64 E) (.int .u64 0) (.int .i64 0) (.int .i64 0) (.string (bs [])) (.int .i64 ch)
      rw [hwf] at bf
      have kf : Keeps (fun x => x = B) w8 wf := by rw [← hwf]; exact (((((kset _ B 0 _).trans (kset _ B 1 _)).trans (kset _ B 2 _)).trans (kset _ B 3 _)).trans (kset _ B 4 _)).trans (kset _ B 5 _)
      have HF := Hid.of ((P8.set kf).mr)
      obtain ⟨⟨e0, e1, e2, e3, e4, e5⟩, -⟩ := six_cells bf
      clear b7 k7 P7 b8 k8 P8 bb bf kf HP6 HP4 HP2 HA HH HC KS
      go_wp2
      refine bodyPost_ret (v := .agg #[.int .i64 E, .int .u64 0, .int .i64 0, .int .i64 0, .string (bs []), .int .i64 ch]) ?_ ?_ ?_
      · simp [results, Tryd.results9, go_sem, e0, e1, e2, e3, e4, e5]
      · rfl
      · exact ⟨rfl, HF.out⟩
    · have eA : act M i 2 n m h d = (⟨(resize M i m n).1, 0, 0, 0, bs [], 0⟩, (resize M i m n).2) := by unfold act; rw [if_neg (by decide), if_pos rfl]
      rw [eA]
      have okA := KS.out.2.1
      rw [eA] at okA
      dsimp only at okA ⊢
      have hq := fun wx (HX : MAt wx mm M p) (TX : Sh.Tab wx) => resize_any wx mm M p i KS.out.1 m n hm HX HH.out.2.2
      generalize (resize M i m n).2 = M' at hq okA ⊢
      generalize (resize M i m n).1 = E at hq ⊢
      have HQ := Hid.of hq
      obtain ⟨ch0, hch0⟩ : ∃ ch0, charged M' i = ch0 := ⟨_, rfl⟩
      have HOK := Hid.of okA
      clear eA hq okA hch0
      go_enter Tryd.func9, Tryd.ntmps9
      go_wp2_with fail
      refine qck.mono ?_
      rintro e w3 ⟨rfl, k3⟩
      obtain ⟨w4, hw4, b4, P4, a4, T4, ⟨s0, s1⟩, cm⟩ := HK0.out w3 k3
      obtain ⟨⟨x0', x1', x2', x3', x4', x5'⟩, -⟩ := six_cells a4
      obtain ⟨⟨d0, d1, d2, d3, d4, d5⟩, g0, g1, g2, g3, g4, g5⟩ := six_cells b4
      have HP4 := Hid.of (And.intro b4 (And.intro P4 (And.intro a4 T4)))
      clear qck k3 b4 P4 a4 T4 HK0 c2
      go_wp2
      go_region
      clear s0 s1 cm
      have P4 := HP4.out.2.1.old ((Keeps.refl _ _).drew)
      have q := HQ.out w4.drew P4.1 (HP4.out.2.2.2.old ((Keeps.refl _ _).drew))
      clear P4
      go_wp2_with fail
      refine q.mono ?_
      rintro e w5 ⟨rfl, r5⟩
      clear q
      obtain ⟨p5, P5, K5⟩ := (HP4.out.2.1.old ((Keeps.refl _ _).drew)).step r5
      have nfB := HP4.out.2.1.nf
      have b5 := K5.at (show w4.drew.heap[B]? = _ from HP4.out.1) nfB
      have a5 := K5.at (show w4.drew.heap[A]? = _ from HP4.out.2.2.1) HA.out.2.1
      clear r5 K5
      obtain ⟨w6, hw6⟩ : ∃ w6, w5.setCell ⟨B, 0, none⟩ (.int .i64 E) = w6 := ⟨_, rfl⟩
      have b6 : w6.heap[B]? = some (.cells (acells ⟨E, 0, 0, 0, bs [], 0⟩) 36 (0, 0)) := by rw [← hw6]; exact set_of b5 0 _
      have k6 : Keeps (fun x => x = B) w5 w6 := by rw [← hw6]; exact kset _ B 0 _
      have P6 := P5.set k6
      have a6 := k6.at a5 (by have := HA.out.2.2; omega)
      obtain ⟨⟨d0', -, -, -, -, -⟩, g0', -, -, -, -, -⟩ := six_cells b5
      obtain ⟨⟨x0'', x1'', x2'', x3'', x4'', x5''⟩, -⟩ := six_cells a6
      have qch := chargedM_any w6 mm M' p5 i KS.out.1 P6.1 HOK.out
      have HP6 := Hid.of (And.intro b6 P6)
      clear b5 a5 P5 b6 k6 P6 a6
      go_wp2_with fail
      refine qch.mono ?_
      rintro e w7 ⟨rfl, k7⟩
      clear qch
      have b7 := k7.at HP6.out.1 (fun x => x)
      have P7 := HP6.out.2.old k7
      obtain ⟨⟨-, -, -, -, -, h5⟩, -, -, -, -, -, j5⟩ := six_cells b7
      generalize hch : charged M' i = ch at *
      obtain ⟨w8, hw8⟩ : ∃ w8, w7.setCell ⟨B, 5, none⟩ (.int .i64 ch) = w8 := ⟨_, rfl⟩
      have b8 : w8.heap[B]? = some (.cells (acells ⟨E, 0, 0, 0, (bs []), ch⟩) 36 (0, 0)) := by rw [← hw8]; exact set_of b7 5 _
      have k8 : Keeps (fun x => x = B) w7 w8 := by rw [← hw8]; exact kset _ B 5 _
      have P8 := P7.set k8
      have bb := b8
      obtain ⟨⟨c0, c1, c2, c3, c4, c5⟩, f0, f1, f2, f3, f4, f5⟩ := six_cells bb
      obtain ⟨wf, hwf⟩ : ∃ wf, (((((w8.setCell ⟨B, 0, none⟩ (.int .i64 E)).setCell ⟨B, 1, none⟩ (.int .u64 0)).setCell ⟨B, 2, none⟩ (.int .i64 0) ).setCell ⟨B, 3, none⟩ (.int .i64 0)).setCell ⟨B, 4, none⟩ (.string (bs []))).setCell ⟨B, 5, none⟩ (.int .i64 ch) = wf := ⟨_, rfl⟩
      have bf := set6 bb (.int .i64 E) (.int .u64 0) (.int .i64 0) (.int .i64 0) (.string (bs [])) (.int .i64 ch)
      rw [hwf] at bf
      have kf : Keeps (fun x => x = B) w8 wf := by rw [← hwf]; exact (((((kset _ B 0 _).trans (kset _ B 1 _)).trans (kset _ B 2 _)).trans (kset _ B 3 _)).trans (kset _ B 4 _)).trans (kset _ B 5 _)
      have HF := Hid.of ((P8.set kf).mr)
      obtain ⟨⟨e0, e1, e2, e3, e4, e5⟩, -⟩ := six_cells bf
      clear b7 k7 P7 b8 k8 P8 bb bf kf HP6 HP4 HP2 HA HH HC KS
      go_wp2
      refine bodyPost_ret (v := .agg #[.int .i64 E, .int .u64 0, .int .i64 0, .int .i64 0, .string (bs []), .int .i64 ch]) ?_ ?_ ?_
      · simp [results, Tryd.results9, go_sem, e0, e1, e2, e3, e4, e5]
      · rfl
      · exact ⟨rfl, HF.out⟩
    · have eA : act M i 3 n m h d = (⟨(destroy M i).1, 0, 0, 0, bs [], 0⟩, (destroy M i).2) := by unfold act; rw [if_neg (by decide), if_neg (by decide), if_pos rfl]
      rw [eA]
      have okA := KS.out.2.1
      rw [eA] at okA
      dsimp only at okA ⊢
      have hq := fun wx (HX : MAt wx mm M p) (TX : Sh.Tab wx) => destroy_any wx mm M p i KS.out.1 HX HH.out.2.2
      generalize (destroy M i).2 = M' at hq okA ⊢
      generalize (destroy M i).1 = E at hq ⊢
      have HQ := Hid.of hq
      obtain ⟨ch0, hch0⟩ : ∃ ch0, charged M' i = ch0 := ⟨_, rfl⟩
      have HOK := Hid.of okA
      clear eA hq okA hch0
      go_enter Tryd.func9, Tryd.ntmps9
      go_wp2_with fail
      refine qck.mono ?_
      rintro e w3 ⟨rfl, k3⟩
      obtain ⟨w4, hw4, b4, P4, a4, T4, ⟨s0, s1⟩, cm⟩ := HK0.out w3 k3
      obtain ⟨⟨x0', x1', x2', x3', x4', x5'⟩, -⟩ := six_cells a4
      obtain ⟨⟨d0, d1, d2, d3, d4, d5⟩, g0, g1, g2, g3, g4, g5⟩ := six_cells b4
      have HP4 := Hid.of (And.intro b4 (And.intro P4 (And.intro a4 T4)))
      clear qck k3 b4 P4 a4 T4 HK0 c2
      go_wp2
      go_region
      clear s0 s1 cm
      have P4 := HP4.out.2.1.old ((Keeps.refl _ _).drew)
      have q := HQ.out w4.drew P4.1 (HP4.out.2.2.2.old ((Keeps.refl _ _).drew))
      clear P4
      go_wp2_with fail
      refine q.mono ?_
      rintro e w5 ⟨rfl, r5⟩
      clear q
      obtain ⟨p5, P5, K5⟩ := (HP4.out.2.1.old ((Keeps.refl _ _).drew)).step r5
      have nfB := HP4.out.2.1.nf
      have b5 := K5.at (show w4.drew.heap[B]? = _ from HP4.out.1) nfB
      have a5 := K5.at (show w4.drew.heap[A]? = _ from HP4.out.2.2.1) HA.out.2.1
      clear r5 K5
      obtain ⟨w6, hw6⟩ : ∃ w6, w5.setCell ⟨B, 0, none⟩ (.int .i64 E) = w6 := ⟨_, rfl⟩
      have b6 : w6.heap[B]? = some (.cells (acells ⟨E, 0, 0, 0, bs [], 0⟩) 36 (0, 0)) := by rw [← hw6]; exact set_of b5 0 _
      have k6 : Keeps (fun x => x = B) w5 w6 := by rw [← hw6]; exact kset _ B 0 _
      have P6 := P5.set k6
      have a6 := k6.at a5 (by have := HA.out.2.2; omega)
      obtain ⟨⟨d0', -, -, -, -, -⟩, g0', -, -, -, -, -⟩ := six_cells b5
      obtain ⟨⟨x0'', x1'', x2'', x3'', x4'', x5''⟩, -⟩ := six_cells a6
      have qch := chargedM_any w6 mm M' p5 i KS.out.1 P6.1 HOK.out
      have HP6 := Hid.of (And.intro b6 P6)
      clear b5 a5 P5 b6 k6 P6 a6
      go_wp2_with fail
      refine qch.mono ?_
      rintro e w7 ⟨rfl, k7⟩
      clear qch
      have b7 := k7.at HP6.out.1 (fun x => x)
      have P7 := HP6.out.2.old k7
      obtain ⟨⟨-, -, -, -, -, h5⟩, -, -, -, -, -, j5⟩ := six_cells b7
      generalize hch : charged M' i = ch at *
      obtain ⟨w8, hw8⟩ : ∃ w8, w7.setCell ⟨B, 5, none⟩ (.int .i64 ch) = w8 := ⟨_, rfl⟩
      have b8 : w8.heap[B]? = some (.cells (acells ⟨E, 0, 0, 0, (bs []), ch⟩) 36 (0, 0)) := by rw [← hw8]; exact set_of b7 5 _
      have k8 : Keeps (fun x => x = B) w7 w8 := by rw [← hw8]; exact kset _ B 5 _
      have P8 := P7.set k8
      have bb := b8
      obtain ⟨⟨c0, c1, c2, c3, c4, c5⟩, f0, f1, f2, f3, f4, f5⟩ := six_cells bb
      obtain ⟨wf, hwf⟩ : ∃ wf, (((((w8.setCell ⟨B, 0, none⟩ (.int .i64 E)).setCell ⟨B, 1, none⟩ (.int .u64 0)).setCell ⟨B, 2, none⟩ (.int .i64 0) ).setCell ⟨B, 3, none⟩ (.int .i64 0)).setCell ⟨B, 4, none⟩ (.string (bs []))).setCell ⟨B, 5, none⟩ (.int .i64 ch) = wf := ⟨_, rfl⟩
      have bf := set6 bb (.int .i64 E) (.int .u64 0) (.int .i64 0) (.int .i64 0) (.string (bs [])) (.int .i64 ch)
      rw [hwf] at bf
      have kf : Keeps (fun x => x = B) w8 wf := by rw [← hwf]; exact (((((kset _ B 0 _).trans (kset _ B 1 _)).trans (kset _ B 2 _)).trans (kset _ B 3 _)).trans (kset _ B 4 _)).trans (kset _ B 5 _)
      have HF := Hid.of ((P8.set kf).mr)
      obtain ⟨⟨e0, e1, e2, e3, e4, e5⟩, -⟩ := six_cells bf
      clear b7 k7 P7 b8 k8 P8 bb bf kf HP6 HP4 HP2 HA HH HC KS
      go_wp2
      refine bodyPost_ret (v := .agg #[.int .i64 E, .int .u64 0, .int .i64 0, .int .i64 0, .string (bs []), .int .i64 ch]) ?_ ?_ ?_
      · simp [results, Tryd.results9, go_sem, e0, e1, e2, e3, e4, e5]
      · rfl
      · exact ⟨rfl, HF.out⟩
    · have eA : act M i kind n m h d = (⟨6, 0, 0, 0, bs [], 0⟩, M) := by unfold act; rw [if_neg (by omega), if_neg (by omega), if_neg (by omega), hP]
      rw [eA]
      dsimp only
      have t1 : (kind == 1) = false := by simp; omega
      have t2 : (kind == 2) = false := by simp; omega
      have t3 : (kind == 3) = false := by simp; omega
      have e2 : ptr M p i = none := by unfold ptr; rw [hP]; rfl
      rw [e2] at HK0
      clear eA hP hk4 e2
      go_enter Tryd.func9, Tryd.ntmps9
      go_wp2_with fail
      refine qck.mono ?_
      rintro e w3 ⟨rfl, k3⟩
      obtain ⟨w4, hw4, b4, P4, a4, T4, ⟨s0, s1⟩, cm⟩ := HK0.out w3 k3
      obtain ⟨⟨x0', x1', x2', x3', x4', x5'⟩, -⟩ := six_cells a4
      obtain ⟨⟨d0, d1, d2, d3, d4, d5⟩, g0, g1, g2, g3, g4, g5⟩ := six_cells b4
      have HP4 := Hid.of (And.intro b4 (And.intro P4 (And.intro a4 T4)))
      clear qck k3 b4 P4 a4 T4 HK0 c2
      go_wp2
      go_region
      clear s0 s1 cm
      have P4 := HP4.out.2.1.old ((Keeps.refl _ _).drew)
      clear P4
      have P5 := HP4.out.2.1.old ((Keeps.refl _ _).drew)
      have b5 : w4.drew.heap[B]? = _ := HP4.out.1
      have a5 : w4.drew.heap[A]? = _ := HP4.out.2.2.1
      obtain ⟨p5, hp5⟩ : ∃ p5, p5 = p := ⟨_, rfl⟩
      obtain ⟨w6, hw6⟩ : ∃ w6, w4.drew.setCell ⟨B, 0, none⟩ (.int .i64 6) = w6 := ⟨_, rfl⟩
      have b6 : w6.heap[B]? = some (.cells (acells ⟨6, 0, 0, 0, bs [], 0⟩) 36 (0, 0)) := by rw [← hw6]; exact set_of b5 0 _
      have k6 : Keeps (fun x => x = B) w4.drew w6 := by rw [← hw6]; exact kset _ B 0 _
      have P6 := P5.set k6
      have a6 := k6.at a5 (by have := HA.out.2.2; omega)
      obtain ⟨⟨d0', -, -, -, -, -⟩, g0', -, -, -, -, -⟩ := six_cells b5
      obtain ⟨⟨x0'', x1'', x2'', x3'', x4'', x5''⟩, -⟩ := six_cells a6
      have qch := chargedM_any w6 mm M p i KS.out.1 P6.1 HH.out.2.2
      have HP6 := Hid.of (And.intro b6 P6)
      clear b5 a5 P5 b6 k6 P6 a6
      go_wp2_with fail
      refine qch.mono ?_
      rintro e w7 ⟨rfl, k7⟩
      clear qch
      have b7 := k7.at HP6.out.1 (fun x => x)
      have P7 := HP6.out.2.old k7
      obtain ⟨⟨-, -, -, -, -, h5⟩, -, -, -, -, -, j5⟩ := six_cells b7
      generalize hch : charged M i = ch at *
      obtain ⟨w8, hw8⟩ : ∃ w8, w7.setCell ⟨B, 5, none⟩ (.int .i64 ch) = w8 := ⟨_, rfl⟩
      have b8 : w8.heap[B]? = some (.cells (acells ⟨6, 0, 0, 0, (bs []), ch⟩) 36 (0, 0)) := by rw [← hw8]; exact set_of b7 5 _
      have k8 : Keeps (fun x => x = B) w7 w8 := by rw [← hw8]; exact kset _ B 5 _
      have P8 := P7.set k8
      have bb := b8
      obtain ⟨⟨c0, c1, c2, c3, c4, c5⟩, f0, f1, f2, f3, f4, f5⟩ := six_cells bb
      obtain ⟨wf, hwf⟩ : ∃ wf, (((((w8.setCell ⟨B, 0, none⟩ (.int .i64 6)).setCell ⟨B, 1, none⟩ (.int .u64 0)).setCell ⟨B, 2, none⟩ (.int .i64 0) ).setCell ⟨B, 3, none⟩ (.int .i64 0)).setCell ⟨B, 4, none⟩ (.string (bs []))).setCell ⟨B, 5, none⟩ (.int .i64 ch) = wf := ⟨_, rfl⟩
      have bf := set6 bb (.int .i64 6) (.int .u64 0) (.int .i64 0) (.int .i64 0) (.string (bs [])) (.int .i64 ch)
      rw [hwf] at bf
      have kf : Keeps (fun x => x = B) w8 wf := by rw [← hwf]; exact (((((kset _ B 0 _).trans (kset _ B 1 _)).trans (kset _ B 2 _)).trans (kset _ B 3 _)).trans (kset _ B 4 _)).trans (kset _ B 5 _)
      have HF := Hid.of ((P8.set kf).mr)
      obtain ⟨⟨e0, e1, e2, e3, e4, e5⟩, -⟩ := six_cells bf
      clear b7 k7 P7 b8 k8 P8 bb bf kf HP6 HP4 HP2 HA HH HC KS
      go_wp2
      refine bodyPost_ret (v := .agg #[.int .i64 6, .int .u64 0, .int .i64 0, .int .i64 0, .string (bs []), .int .i64 ch]) ?_ ?_ ?_
      · simp [results, Tryd.results9, go_sem, e0, e1, e2, e3, e4, e5]
      · rfl
      · exact ⟨rfl, HF.out⟩
    · have eA : act M i kind n m h d = ((pdo P kind n m h d).1, { M with T := upd M.T i (some (pdo P kind n m h d).2) }) := by unfold act; rw [if_neg (by omega), if_neg (by omega), if_neg (by omega), hP]
      rw [eA]
      have okA := KS.out.2.1
      rw [eA] at okA
      dsimp only at okA ⊢
      have oP := HH.out.2.2.part i KS.out.1 P hP
      have t1 : (kind == 1) = false := by simp; omega
      have t2 : (kind == 2) = false := by simp; omega
      have t3 : (kind == 3) = false := by simp; omega
      have e2 : ptr M p i = some ⟨(p.pl i).b, 0, none⟩ := by unfold ptr; rw [hP]; rfl
      rw [e2] at HK0
      have hq := fun wx (HX : MAt wx mm M p) (TX : Sh.Tab wx) => pdo_any wx (p.pl i) (p.gg i) P kind i n m h d (HX.part i KS.out.1 P hP) oP.1 TX hh KS.out.2.2.1 hn hm HC.out hk4
      generalize (pdo P kind n m h d).2 = P' at hq okA ⊢
      generalize (pdo P kind n m h d).1 = an at hq ⊢
      obtain ⟨E, hd', ad, nn, da, c0'⟩ := an
      have HPP := Hid.of hP
      have HQ := Hid.of hq
      have HOK := Hid.of okA
      dsimp only
      clear eA hP hk4 e2 hq okA oP
      go_enter Tryd.func9, Tryd.ntmps9
      go_wp2_with fail
      refine qck.mono ?_
      rintro e w3 ⟨rfl, k3⟩
      obtain ⟨w4, hw4, b4, P4, a4, T4, ⟨s0, s1⟩, cm⟩ := HK0.out w3 k3
      obtain ⟨⟨x0', x1', x2', x3', x4', x5'⟩, -⟩ := six_cells a4
      obtain ⟨⟨d0, d1, d2, d3, d4, d5⟩, g0, g1, g2, g3, g4, g5⟩ := six_cells b4
      have HP4 := Hid.of (And.intro b4 (And.intro P4 (And.intro a4 T4)))
      clear qck k3 b4 P4 a4 T4 HK0 c2
      go_wp2
      go_region
      clear s0 s1 cm
      have P4 := HP4.out.2.1.old ((Keeps.refl _ _).drew)
      have q := HQ.out w4.drew P4.1 (HP4.out.2.2.2.old ((Keeps.refl _ _).drew))
      clear P4
      go_wp2_with fail
      refine q.mono ?_
      rintro e w5 ⟨rfl, g5, r5⟩
      clear q
      unfold XAns.enc
      dsimp only
      have P4 := HP4.out.2.1.old ((Keeps.refl _ _).drew)
      obtain ⟨p5, P5, K5⟩ := P4.step (MAt.step P4.1 KS.out.1 HPP.out r5)
      have nfB := HP4.out.2.1.nf
      have b5 := K5.at (show w4.drew.heap[B]? = _ from HP4.out.1) nfB
      have a5 := K5.at (show w4.drew.heap[A]? = _ from HP4.out.2.2.1) HA.out.2.1
      clear r5 K5 P4
      obtain ⟨⟨d0', d1', d2', d3', d4', d5'⟩, g0', g1', g2', g3', g4', g5'⟩ := six_cells b5
      obtain ⟨w6, hw6⟩ : ∃ w6, (((((w5.setCell ⟨B, 0, none⟩ (.int .i64 E)).setCell ⟨B, 1, none⟩ (.int .u64 hd')).setCell ⟨B, 2, none⟩ (.int .i64 ad)).setCell ⟨B, 3, none⟩ (.int .i64 nn)).setCell ⟨B, 4, none⟩ (.string da)).setCell ⟨B, 5, none⟩ (.int .i64 c0') = w6 := ⟨_, rfl⟩
      have b6 : w6.heap[B]? = some (.cells (acells ⟨E, hd', ad, nn, da, c0'⟩) 36 (0, 0)) := by rw [← hw6]; exact set6 b5 _ _ _ _ _ _
      have k6 : Keeps (fun x => x = B) w5 w6 := by rw [← hw6]; exact (((((kset _ B 0 _).trans (kset _ B 1 _)).trans (kset _ B 2 _)).trans (kset _ B 3 _)).trans (kset _ B 4 _)).trans (kset _ B 5 _)
      have P6 := P5.set k6
      have a6 := k6.at a5 (by have := HA.out.2.2; omega)
      obtain ⟨⟨x0'', x1'', x2'', x3'', x4'', x5''⟩, -⟩ := six_cells a6
      obtain ⟨M', hM'⟩ : ∃ M', ({ M with T := upd M.T i (some P') } : MM) = M' := ⟨_, rfl⟩
      have HOK' := HOK.out
      rw [hM'] at P6 HOK'
      have HM := Hid.of hM'
      clear hM'
      have qch := chargedM_any w6 mm M' p5 i KS.out.1 P6.1 HOK'
      have HP6 := Hid.of (And.intro b6 P6)
      clear b5 a5 P5 b6 k6 P6 a6
      go_wp2_with fail
      refine qch.mono ?_
      rintro e w7 ⟨rfl, k7⟩
      clear qch
      have b7 := k7.at HP6.out.1 (fun x => x)
      have P7 := HP6.out.2.old k7
      obtain ⟨⟨-, -, -, -, -, h5⟩, -, -, -, -, -, j5⟩ := six_cells b7
      generalize hch : charged M' i = ch at *
      obtain ⟨w8, hw8⟩ : ∃ w8, w7.setCell ⟨B, 5, none⟩ (.int .i64 ch) = w8 := ⟨_, rfl⟩
      have b8 : w8.heap[B]? = some (.cells (acells ⟨E, hd', ad, nn, da, ch⟩) 36 (0, 0)) := by rw [← hw8]; exact set_of b7 5 _
      have k8 : Keeps (fun x => x = B) w7 w8 := by rw [← hw8]; exact kset _ B 5 _
      have P8 := P7.set k8
      have bb := b8
      obtain ⟨⟨c0, c1, c2, c3, c4, c5⟩, f0, f1, f2, f3, f4, f5⟩ := six_cells bb
      obtain ⟨wf, hwf⟩ : ∃ wf, (((((w8.setCell ⟨B, 0, none⟩ (.int .i64 E)).setCell ⟨B, 1, none⟩ (.int .u64 hd')).setCell ⟨B, 2, none⟩ (.int .i64 ad) ).setCell ⟨B, 3, none⟩ (.int .i64 nn)).setCell ⟨B, 4, none⟩ (.string da)).setCell ⟨B, 5, none⟩ (.int .i64 ch) = wf := ⟨_, rfl⟩
      have bf := set6 bb (.int .i64 E) (.int .u64 hd') (.int .i64 ad) (.int .i64 nn) (.string da) (.int .i64 ch)
      rw [hwf] at bf
      have kf : Keeps (fun x => x = B) w8 wf := by rw [← hwf]; exact (((((kset _ B 0 _).trans (kset _ B 1 _)).trans (kset _ B 2 _)).trans (kset _ B 3 _)).trans (kset _ B 4 _)).trans (kset _ B 5 _)
      have HF := Hid.of ((P8.set kf).mr)
      obtain ⟨⟨e0, e1, e2, e3, e4, e5⟩, -⟩ := six_cells bf
      clear b7 k7 P7 b8 k8 P8 bb bf kf HP6 HP4 HP2 HA HH HC KS
      go_wp2
      refine bodyPost_ret (v := .agg #[.int .i64 E, .int .u64 hd', .int .i64 ad, .int .i64 nn, .string da, .int .i64 ch]) ?_ ?_ ?_
      · simp [results, Tryd.results9, go_sem, e0, e1, e2, e3, e4, e5]
      · rfl
      · rw [HM.out, hch]; exact ⟨rfl, HF.out⟩
  · have e : mdo M ⟨kind, t, n, m, h, bs d⟩ = (⟨Op1.chk ⟨kind, t, n, m, h, bs d⟩, 0, 0, 0, bs [], 0⟩, M) := by unfold mdo; rw [if_pos hc]
    rw [e]
    generalize Op1.chk ⟨kind, t, n, m, h, bs d⟩ = E at *
    have t0 : (E != 0) = true := by simpa using hc
    clear e hc
    go_enter Tryd.func9, Tryd.ntmps9
    go_wp2_with fail
    refine qck.mono ?_
    rintro e w3 ⟨rfl, k3⟩
    clear qck
    have b3 := k3.at HP2.out.1 (fun x => x)
    have P3 := HP2.out.2.old k3
    obtain ⟨⟨d0, -, -, -, -, -⟩, g0, -, -, -, -, -⟩ := six_cells b3
    obtain ⟨w4, hw4⟩ : ∃ x, w3.setCell ⟨B, 0, none⟩ (.int .i64 E) = x := ⟨_, rfl⟩
    have b4 : w4.heap[B]? = some (.cells (acells ⟨E, 0, 0, 0, bs [], 0⟩) 36 (0, 0)) := by rw [← hw4]; exact set_of b3 0 _
    have k4 : Keeps (fun x => x = B) w3 w4 := by rw [← hw4]; exact kset _ B 0 _
    have P4 := P3.set k4
    have bb := b4
    obtain ⟨⟨c0, c1, c2, c3, c4, c5⟩, f0, f1, f2, f3, f4, f5⟩ := six_cells bb
    obtain ⟨wf, hwf⟩ : ∃ wf, (((((w4.setCell ⟨B, 0, none⟩ (.int .i64 E)).setCell ⟨B, 1, none⟩ (.int .u64 0)).setCell ⟨B, 2, none⟩ (.int .i64 0) ).setCell ⟨B, 3, none⟩ (.int .i64 0)).setCell ⟨B, 4, none⟩ (.string (bs []))).setCell ⟨B, 5, none⟩ (.int .i64 0) = wf := ⟨_, rfl⟩
    have bf := set6 bb (.int .i64 E) (.int .u64 0) (.int .i64 0) (.int .i64 0) (.string (bs [])) (.int .i64 0)
    rw [hwf] at bf
    have kf : Keeps (fun x => x = B) w4 wf := by rw [← hwf]; exact (((((kset _ B 0 _).trans (kset _ B 1 _)).trans (kset _ B 2 _)).trans (kset _ B 3 _)).trans (kset _ B 4 _)).trans (kset _ B 5 _)
    have HF := Hid.of ((P4.set kf).mr)
    obtain ⟨⟨e0, e1, e2, e3, e4, e5⟩, -⟩ := six_cells bf
    clear k3 b3 P3 b4 k4 P4 bb bf kf HP2 HA HH
    go_wp2
    refine bodyPost_ret (v := .agg #[.int .i64 E, .int .u64 0, .int .i64 0, .int .i64 0, .string (bs []), .int .i64 0]) ?_ ?_ ?_
    · simp [results, Tryd.results9, go_sem, e0, e1, e2, e3, e4, e5]
    · rfl
    · exact ⟨rfl, HF.out⟩
end Mo
end Go.Proofs.YtagmkkddjdlncaaDoor
