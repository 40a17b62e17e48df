/- The model package's walk: a part's do, at each kind of operation (printed by gen_modo.py). -/
import Derived.Test.YtagmkkddjdlncaaDoorMoL
set_option linter.unusedVariables false
set_option linter.unusedSimpArgs false
namespace Go.Proofs.YtagmkkddjdlncaaDoor
open Go.RowKit Go.ChangeMaps
namespace Mo

set_option maxRecDepth 100000 in
set_option maxHeartbeats 2000000 in
theorem do_4 (w : World) (p : Plc) (g : Int → Nat) (P : PP) (t n m : Int) (h : Nat) (d : Bs) (H : PAt w p g P) (ok : Ok P) (hT : Sh.Tab w) (hh : h < 18446744073709551616) (hd : d.length ≤ 8192) (hn : -9223372036854775808 ≤ n ∧ n ≤ 9223372036854775807) (hm : -9223372036854775808 ≤ m ∧ m ≤ 9223372036854775807) :
    Calls Tryd.prog 19 #[.pointer (some ⟨p.b, 0, none⟩), .agg #[.int .i64 4, .int .i64 t, .int .i64 n, .int .i64 m, .int .u64 h, .string (bs d)]] w (DoR w p g P (pdo P 4 n m h d).1 (pdo P 4 n m h d).2) := by
  have e : pdo P 4 n m h d = (⟨(mk P n).1.2, (mk P n).1.1, 0, 0, bs [], 0⟩, (mk P n).2) := by unfold pdo; rw [if_pos rfl]
  rw [e]
  obtain ⟨A, hA⟩ : ∃ A, w.heap.size = A := ⟨_, rfl⟩
  obtain ⟨w1, hw1⟩ : ∃ w1, w.alloc (.cells #[.int .i64 4, .int .i64 t, .int .i64 n, .int .i64 m, .int .u64 h, .string (bs d)] 34) = w1 := ⟨_, rfl⟩
  obtain ⟨B, hB⟩ : ∃ B, w1.heap.size = B := ⟨_, rfl⟩
  obtain ⟨w2, hw2⟩ : ∃ w2, w1.alloc (.cells #[.int .i64 0, .int .u64 0, .int .i64 0, .int .i64 0, .string ⟨#[]⟩, .int .i64 0] 36) = w2 := ⟨_, rfl⟩
  have k1 : Keeps (fun _ => False) w w1 := by rw [← hw1]; exact (Keeps.refl _ _).alloc _
  have k2' : Keeps (fun _ => False) w1 w2 := by rw [← hw2]; exact (Keeps.refl _ _).alloc _
  have k2 := k1.trans k2'
  have a1 : w1.heap[A]? = some (.cells #[.int .i64 4, .int .i64 t, .int .i64 n, .int .i64 m, .int .u64 h, .string (bs d)] 34 (0, 0)) := by rw [← hw1, ← hA]; exact alloc_new _ _
  have a2 := k2'.at a1 (fun x => x)
  have b2 : w2.heap[B]? = some (.cells (acells ⟨0, 0, 0, 0, bs [], 0⟩) 36 (0, 0)) := by rw [← hw2, ← hB]; exact alloc_new _ _
  have hBw : w.heap.size ≤ B := by have := k1.size; omega
  have hAB : A < B := by have := lt_of a1; omega
  have H2 := H.old k2
  have T2 := hT.old k2
  have nfB : ¬ Fp p g P.E B := fun hx => by have := H.lt hx; omega
  have nfA : ¬ Fp p g P.E A := fun hx => by have := H.lt hx; omega
  obtain ⟨x0, x1, x2, x3, x4, x5⟩ := (six_cells a2).1
  have P2 := PB.start H k2 hBw (lt_of b2)
  have hAf := Hid.of (And.intro a2 (And.intro nfA hAB))
  have HB0 := Hid.of (And.intro b2 P2)
  have HH2 := Hid.of (And.intro H2 T2)
  clear k1 k2' a1 a2 b2 hBw nfB nfA H hT k2 hAB P2
  have q := make_any w2 p g P n HH2.out.1 ok HH2.out.2
  generalize (mk P n).2 = P' at q ⊢
  generalize (mk P n).1 = r at q ⊢
  obtain ⟨rh, rE⟩ := r
  dsimp only at q ⊢
  clear e ok
  go_enter Tryd.func19, Tryd.ntmps19
  go_wp2_with fail
  refine q.mono ?_
  rintro e w3 ⟨rfl, g3, r3, G3⟩
  have P3 := HB0.out.2.step r3
  have b3 := r3.2.1.at HB0.out.1 HB0.out.2.nf
  obtain ⟨⟨d0, d1, -, -, -, -⟩, g0, g1, -, -, -, -⟩ := six_cells b3
  obtain ⟨w4, hw4⟩ : ∃ w4, (w3.setCell ⟨B, 1, none⟩ (.int .u64 rh)).setCell ⟨B, 0, none⟩ (.int .i64 rE) = w4 := ⟨_, rfl⟩
  have b4 : w4.heap[B]? = some (.cells (acells ⟨rE, rh, 0, 0, bs [], 0⟩) 36 (0, 0)) := by rw [← hw4]; exact set_of (set_of b3 1 _) 0 _
  have k4 : Keeps (fun x => x = B) w3 w4 := by rw [← hw4]; exact (kset _ B 1 _).trans (kset _ B 0 _)
  have bb := b4
  obtain ⟨⟨c0, c1, c2, c3, c4, c5⟩, f0, f1, f2, f3, f4, f5⟩ := six_cells bb
  obtain ⟨wf, hwf⟩ : ∃ wf, (((((w4.setCell ⟨B, 0, none⟩ (.int .i64 rE)).setCell ⟨B, 1, none⟩ (.int .u64 rh)).setCell ⟨B, 2, none⟩ (.int .i64 0)).setCell ⟨B, 3, none⟩ (.int .i64 0)).setCell ⟨B, 4, none⟩ (.string (bs []))).setCell ⟨B, 5, none⟩ (.int .i64 0) = wf := ⟨_, rfl⟩
  have bf := set6 bb (.int .i64 rE) (.int .u64 rh) (.int .i64 0) (.int .i64 0) (.string (bs [])) (.int .i64 0)
  rw [hwf] at bf
  have kf : Keeps (fun x => x = B) w4 wf := by rw [← hwf]; exact (((((kset _ B 0 _).trans (kset _ B 1 _)).trans (kset _ B 2 _)).trans (kset _ B 3 _)).trans (kset _ B 4 _)).trans (kset _ B 5 _)
  have HF := Hid.of ((P3.set (k4.trans kf)).pr)
  obtain ⟨⟨e0, e1, e2, e3, e4, e5⟩, -⟩ := six_cells bf
  clear q r3 G3 b3 b4 k4 bb bf kf P3
  go_wp2
  refine bodyPost_ret (v := .agg #[.int .i64 rE, .int .u64 rh, .int .i64 0, .int .i64 0, .string (bs []), .int .i64 0]) ?_ ?_ ?_
  · simp [results, Tryd.results19, go_sem, e0, e1, e2, e3, e4, e5]
  · rfl
  · exact ⟨rfl, HF.out⟩

set_option maxRecDepth 100000 in
set_option maxHeartbeats 2000000 in
theorem do_5 (w : World) (p : Plc) (g : Int → Nat) (P : PP) (t n m : Int) (h : Nat) (d : Bs) (H : PAt w p g P) (ok : Ok P) (hT : Sh.Tab w) (hh : h < 18446744073709551616) (hd : d.length ≤ 8192) (hn : -9223372036854775808 ≤ n ∧ n ≤ 9223372036854775807) (hm : -9223372036854775808 ≤ m ∧ m ≤ 9223372036854775807) (hc : Op1.chk ⟨5, t, n, m, h, bs d⟩ = 0) :
    Calls Tryd.prog 19 #[.pointer (some ⟨p.b, 0, none⟩), .agg #[.int .i64 5, .int .i64 t, .int .i64 n, .int .i64 m, .int .u64 h, .string (bs d)]] w (DoR w p g P (pdo P 5 n m h d).1 (pdo P 5 n m h d).2) := by
  have e : pdo P 5 n m h d = (⟨(mk P (Op1.asks n m)).1.2, (mk P (Op1.asks n m)).1.1, 0, 0, bs [], 0⟩, (mk P (Op1.asks n m)).2) := by unfold pdo; rw [if_neg (by decide), if_pos rfl]
  rw [e]
  obtain ⟨A, hA⟩ : ∃ A, w.heap.size = A := ⟨_, rfl⟩
  obtain ⟨w1, hw1⟩ : ∃ w1, w.alloc (.cells #[.int .i64 5, .int .i64 t, .int .i64 n, .int .i64 m, .int .u64 h, .string (bs d)] 34) = w1 := ⟨_, rfl⟩
  obtain ⟨B, hB⟩ : ∃ B, w1.heap.size = B := ⟨_, rfl⟩
  obtain ⟨w2, hw2⟩ : ∃ w2, w1.alloc (.cells #[.int .i64 0, .int .u64 0, .int .i64 0, .int .i64 0, .string ⟨#[]⟩, .int .i64 0] 36) = w2 := ⟨_, rfl⟩
  have k1 : Keeps (fun _ => False) w w1 := by rw [← hw1]; exact (Keeps.refl _ _).alloc _
  have k2' : Keeps (fun _ => False) w1 w2 := by rw [← hw2]; exact (Keeps.refl _ _).alloc _
  have k2 := k1.trans k2'
  have a1 : w1.heap[A]? = some (.cells #[.int .i64 5, .int .i64 t, .int .i64 n, .int .i64 m, .int .u64 h, .string (bs d)] 34 (0, 0)) := by rw [← hw1, ← hA]; exact alloc_new _ _
  have a2 := k2'.at a1 (fun x => x)
  have b2 : w2.heap[B]? = some (.cells (acells ⟨0, 0, 0, 0, bs [], 0⟩) 36 (0, 0)) := by rw [← hw2, ← hB]; exact alloc_new _ _
  have hBw : w.heap.size ≤ B := by have := k1.size; omega
  have hAB : A < B := by have := lt_of a1; omega
  have H2 := H.old k2
  have T2 := hT.old k2
  have nfB : ¬ Fp p g P.E B := fun hx => by have := H.lt hx; omega
  have nfA : ¬ Fp p g P.E A := fun hx => by have := H.lt hx; omega
  obtain ⟨x0, x1, x2, x3, x4, x5⟩ := (six_cells a2).1
  have P2 := PB.start H k2 hBw (lt_of b2)
  have hAf := Hid.of (And.intro a2 (And.intro nfA hAB))
  have HB0 := Hid.of (And.intro b2 P2)
  have HH2 := Hid.of (And.intro H2 T2)
  clear k1 k2' a1 a2 b2 hBw nfB nfA H hT k2 hAB P2
  have qa := Op1.asks_any w2 ⟨5, t, n, m, h, bs d⟩ (by rw [bs_size]; unfold maxLen; omega) rfl hc
  unfold XOp.enc at qa
  dsimp only at qa
  generalize Op1.asks n m = z at qa ⊢
  have q := fun wx (k : Keeps (fun _ => False) w2 wx) => make_any wx p g P z (HH2.out.1.old k) ok (HH2.out.2.old k)
  generalize (mk P z).2 = P' at q ⊢
  generalize (mk P z).1 = r at q ⊢
  obtain ⟨rh, rE⟩ := r
  dsimp only at q ⊢
  have HQ := Hid.of q
  clear e ok q hc
  go_enter Tryd.func19, Tryd.ntmps19
  go_wp2_with fail
  refine qa.mono ?_
  rintro e w2' ⟨rfl, k2⟩
  have q := HQ.out w2' k2
  have HK := Hid.of k2
  clear qa k2 HQ
  go_wp2_with fail
  refine q.mono ?_
  rintro e w3 ⟨rfl, g3, r3, G3⟩
  have P3 := (HB0.out.2.old HK.out).step r3
  have b3 := r3.2.1.at (HK.out.at HB0.out.1 (fun x => x)) HB0.out.2.nf
  obtain ⟨⟨d0, d1, -, -, -, -⟩, g0, g1, -, -, -, -⟩ := six_cells b3
  obtain ⟨w4, hw4⟩ : ∃ w4, (w3.setCell ⟨B, 1, none⟩ (.int .u64 rh)).setCell ⟨B, 0, none⟩ (.int .i64 rE) = w4 := ⟨_, rfl⟩
  have b4 : w4.heap[B]? = some (.cells (acells ⟨rE, rh, 0, 0, bs [], 0⟩) 36 (0, 0)) := by rw [← hw4]; exact set_of (set_of b3 1 _) 0 _
  have k4 : Keeps (fun x => x = B) w3 w4 := by rw [← hw4]; exact (kset _ B 1 _).trans (kset _ B 0 _)
  have bb := b4
  obtain ⟨⟨c0, c1, c2, c3, c4, c5⟩, f0, f1, f2, f3, f4, f5⟩ := six_cells bb
  obtain ⟨wf, hwf⟩ : ∃ wf, (((((w4.setCell ⟨B, 0, none⟩ (.int .i64 rE)).setCell ⟨B, 1, none⟩ (.int .u64 rh)).setCell ⟨B, 2, none⟩ (.int .i64 0)).setCell ⟨B, 3, none⟩ (.int .i64 0)).setCell ⟨B, 4, none⟩ (.string (bs []))).setCell ⟨B, 5, none⟩ (.int .i64 0) = wf := ⟨_, rfl⟩
  have bf := set6 bb (.int .i64 rE) (.int .u64 rh) (.int .i64 0) (.int .i64 0) (.string (bs [])) (.int .i64 0)
  rw [hwf] at bf
  have kf : Keeps (fun x => x = B) w4 wf := by rw [← hwf]; exact (((((kset _ B 0 _).trans (kset _ B 1 _)).trans (kset _ B 2 _)).trans (kset _ B 3 _)).trans (kset _ B 4 _)).trans (kset _ B 5 _)
  have HF := Hid.of ((P3.set (k4.trans kf)).pr)
  obtain ⟨⟨e0, e1, e2, e3, e4, e5⟩, -⟩ := six_cells bf
  clear q r3 G3 b3 b4 k4 bb bf kf P3
  go_wp2
  refine bodyPost_ret (v := .agg #[.int .i64 rE, .int .u64 rh, .int .i64 0, .int .i64 0, .string (bs []), .int .i64 0]) ?_ ?_ ?_
  · simp [results, Tryd.results19, go_sem, e0, e1, e2, e3, e4, e5]
  · rfl
  · exact ⟨rfl, HF.out⟩

set_option maxRecDepth 100000 in
set_option maxHeartbeats 2000000 in
theorem do_7 (w : World) (p : Plc) (g : Int → Nat) (P : PP) (t n m : Int) (h : Nat) (d : Bs) (H : PAt w p g P) (ok : Ok P) (hT : Sh.Tab w) (hh : h < 18446744073709551616) (hd : d.length ≤ 8192) (hn : -9223372036854775808 ≤ n ∧ n ≤ 9223372036854775807) (hm : -9223372036854775808 ≤ m ∧ m ≤ 9223372036854775807) :
    Calls Tryd.prog 19 #[.pointer (some ⟨p.b, 0, none⟩), .agg #[.int .i64 7, .int .i64 t, .int .i64 n, .int .i64 m, .int .u64 h, .string (bs d)]] w (DoR w p g P (pdo P 7 n m h d).1 (pdo P 7 n m h d).2) := by
  have e : pdo P 7 n m h d = (⟨(realloc P h n).1.2, (realloc P h n).1.1, 0, 0, bs [], 0⟩, (realloc P h n).2) := by unfold pdo; rw [if_neg (by decide), if_neg (by decide), if_neg (by decide), if_pos rfl]
  rw [e]
  obtain ⟨A, hA⟩ : ∃ A, w.heap.size = A := ⟨_, rfl⟩
  obtain ⟨w1, hw1⟩ : ∃ w1, w.alloc (.cells #[.int .i64 7, .int .i64 t, .int .i64 n, .int .i64 m, .int .u64 h, .string (bs d)] 34) = w1 := ⟨_, rfl⟩
  obtain ⟨B, hB⟩ : ∃ B, w1.heap.size = B := ⟨_, rfl⟩
  obtain ⟨w2, hw2⟩ : ∃ w2, w1.alloc (.cells #[.int .i64 0, .int .u64 0, .int .i64 0, .int .i64 0, .string ⟨#[]⟩, .int .i64 0] 36) = w2 := ⟨_, rfl⟩
  have k1 : Keeps (fun _ => False) w w1 := by rw [← hw1]; exact (Keeps.refl _ _).alloc _
  have k2' : Keeps (fun _ => False) w1 w2 := by rw [← hw2]; exact (Keeps.refl _ _).alloc _
  have k2 := k1.trans k2'
  have a1 : w1.heap[A]? = some (.cells #[.int .i64 7, .int .i64 t, .int .i64 n, .int .i64 m, .int .u64 h, .string (bs d)] 34 (0, 0)) := by rw [← hw1, ← hA]; exact alloc_new _ _
  have a2 := k2'.at a1 (fun x => x)
  have b2 : w2.heap[B]? = some (.cells (acells ⟨0, 0, 0, 0, bs [], 0⟩) 36 (0, 0)) := by rw [← hw2, ← hB]; exact alloc_new _ _
  have hBw : w.heap.size ≤ B := by have := k1.size; omega
  have hAB : A < B := by have := lt_of a1; omega
  have H2 := H.old k2
  have T2 := hT.old k2
  have nfB : ¬ Fp p g P.E B := fun hx => by have := H.lt hx; omega
  have nfA : ¬ Fp p g P.E A := fun hx => by have := H.lt hx; omega
  obtain ⟨x0, x1, x2, x3, x4, x5⟩ := (six_cells a2).1
  have P2 := PB.start H k2 hBw (lt_of b2)
  have hAf := Hid.of (And.intro a2 (And.intro nfA hAB))
  have HB0 := Hid.of (And.intro b2 P2)
  have HH2 := Hid.of (And.intro H2 T2)
  clear k1 k2' a1 a2 b2 hBw nfB nfA H hT k2 hAB P2
  have q := realloc_any w2 p g P h n HH2.out.1 ok HH2.out.2 hh
  generalize (realloc P h n).2 = P' at q ⊢
  generalize (realloc P h n).1 = r at q ⊢
  obtain ⟨rh, rE⟩ := r
  dsimp only at q ⊢
  clear e ok
  go_enter Tryd.func19, Tryd.ntmps19
  go_wp2_with fail
  refine q.mono ?_
  rintro e w3 ⟨rfl, g3, r3⟩
  have P3 := HB0.out.2.step r3
  have b3 := r3.2.1.at HB0.out.1 HB0.out.2.nf
  obtain ⟨⟨d0, d1, -, -, -, -⟩, g0, g1, -, -, -, -⟩ := six_cells b3
  obtain ⟨w4, hw4⟩ : ∃ w4, (w3.setCell ⟨B, 1, none⟩ (.int .u64 rh)).setCell ⟨B, 0, none⟩ (.int .i64 rE) = w4 := ⟨_, rfl⟩
  have b4 : w4.heap[B]? = some (.cells (acells ⟨rE, rh, 0, 0, bs [], 0⟩) 36 (0, 0)) := by rw [← hw4]; exact set_of (set_of b3 1 _) 0 _
  have k4 : Keeps (fun x => x = B) w3 w4 := by rw [← hw4]; exact (kset _ B 1 _).trans (kset _ B 0 _)
  have bb := b4
  obtain ⟨⟨c0, c1, c2, c3, c4, c5⟩, f0, f1, f2, f3, f4, f5⟩ := six_cells bb
  obtain ⟨wf, hwf⟩ : ∃ wf, (((((w4.setCell ⟨B, 0, none⟩ (.int .i64 rE)).setCell ⟨B, 1, none⟩ (.int .u64 rh)).setCell ⟨B, 2, none⟩ (.int .i64 0)).setCell ⟨B, 3, none⟩ (.int .i64 0)).setCell ⟨B, 4, none⟩ (.string (bs []))).setCell ⟨B, 5, none⟩ (.int .i64 0) = wf := ⟨_, rfl⟩
  have bf := set6 bb (.int .i64 rE) (.int .u64 rh) (.int .i64 0) (.int .i64 0) (.string (bs [])) (.int .i64 0)
  rw [hwf] at bf
  have kf : Keeps (fun x => x = B) w4 wf := by rw [← hwf]; exact (((((kset _ B 0 _).trans (kset _ B 1 _)).trans (kset _ B 2 _)).trans (kset _ B 3 _)).trans (kset _ B 4 _)).trans (kset _ B 5 _)
  have HF := Hid.of ((P3.set (k4.trans kf)).pr)
  obtain ⟨⟨e0, e1, e2, e3, e4, e5⟩, -⟩ := six_cells bf
  clear q r3 b3 b4 k4 bb bf kf P3
  go_wp2
  refine bodyPost_ret (v := .agg #[.int .i64 rE, .int .u64 rh, .int .i64 0, .int .i64 0, .string (bs []), .int .i64 0]) ?_ ?_ ?_
  · simp [results, Tryd.results19, go_sem, e0, e1, e2, e3, e4, e5]
  · rfl
  · exact ⟨rfl, HF.out⟩

set_option maxRecDepth 100000 in
set_option maxHeartbeats 2000000 in
theorem do_6 (w : World) (p : Plc) (g : Int → Nat) (P : PP) (t n m : Int) (h : Nat) (d : Bs) (H : PAt w p g P) (ok : Ok P) (hT : Sh.Tab w) (hh : h < 18446744073709551616) (hd : d.length ≤ 8192) (hn : -9223372036854775808 ≤ n ∧ n ≤ 9223372036854775807) (hm : -9223372036854775808 ≤ m ∧ m ≤ 9223372036854775807) :
    Calls Tryd.prog 19 #[.pointer (some ⟨p.b, 0, none⟩), .agg #[.int .i64 6, .int .i64 t, .int .i64 n, .int .i64 m, .int .u64 h, .string (bs d)]] w (DoR w p g P (pdo P 6 n m h d).1 (pdo P 6 n m h d).2) := by
  have e : pdo P 6 n m h d = (⟨(Ca.Fnd P.C h 4).2, 0, 0, 0, bs [], 0⟩, if (Ca.Fnd P.C h 4).2 = 0 then drop P (Ca.Fnd P.C h 4).1 else P) := by unfold pdo; rw [if_neg (by decide), if_neg (by decide), if_pos rfl]
  rw [e]
  obtain ⟨A, hA⟩ : ∃ A, w.heap.size = A := ⟨_, rfl⟩
  obtain ⟨w1, hw1⟩ : ∃ w1, w.alloc (.cells #[.int .i64 6, .int .i64 t, .int .i64 n, .int .i64 m, .int .u64 h, .string (bs d)] 34) = w1 := ⟨_, rfl⟩
  obtain ⟨B, hB⟩ : ∃ B, w1.heap.size = B := ⟨_, rfl⟩
  obtain ⟨w2, hw2⟩ : ∃ w2, w1.alloc (.cells #[.int .i64 0, .int .u64 0, .int .i64 0, .int .i64 0, .string ⟨#[]⟩, .int .i64 0] 36) = w2 := ⟨_, rfl⟩
  have k1 : Keeps (fun _ => False) w w1 := by rw [← hw1]; exact (Keeps.refl _ _).alloc _
  have k2' : Keeps (fun _ => False) w1 w2 := by rw [← hw2]; exact (Keeps.refl _ _).alloc _
  have k2 := k1.trans k2'
  have a1 : w1.heap[A]? = some (.cells #[.int .i64 6, .int .i64 t, .int .i64 n, .int .i64 m, .int .u64 h, .string (bs d)] 34 (0, 0)) := by rw [← hw1, ← hA]; exact alloc_new _ _
  have a2 := k2'.at a1 (fun x => x)
  have b2 : w2.heap[B]? = some (.cells (acells ⟨0, 0, 0, 0, bs [], 0⟩) 36 (0, 0)) := by rw [← hw2, ← hB]; exact alloc_new _ _
  have hBw : w.heap.size ≤ B := by have := k1.size; omega
  have hAB : A < B := by have := lt_of a1; omega
  have H2 := H.old k2
  have T2 := hT.old k2
  have nfB : ¬ Fp p g P.E B := fun hx => by have := H.lt hx; omega
  have nfA : ¬ Fp p g P.E A := fun hx => by have := H.lt hx; omega
  obtain ⟨x0, x1, x2, x3, x4, x5⟩ := (six_cells a2).1
  have P2 := PB.start H k2 hBw (lt_of b2)
  have hAf := Hid.of (And.intro a2 (And.intro nfA hAB))
  have HB0 := Hid.of (And.intro b2 P2)
  have HH2 := Hid.of (And.intro H2 T2)
  clear k1 k2' a1 a2 b2 hBw nfB nfA H hT k2 hAB P2
  have q := Ca.Find_any w2.drew p.c P.C h 4 HH2.out.1.drew.caps hh
  have y0 := cell_of (v := .pointer (some ⟨p.c.c, 0, none⟩)) HH2.out.1.cells 0 rfl
  have hfo := fun h0 => ok.fnd (h := h) (r := 4) h0
  generalize (Ca.Fnd P.C h 4).1 = k at q hfo ⊢
  generalize (Ca.Fnd P.C h 4).2 = E at q hfo ⊢
  have HFO := Hid.of hfo
  have OK := Hid.of ok
  by_cases hE : E = 0
  · subst hE
    rw [if_pos rfl]
    have hdr := fun wx g (Hx : PAt wx p g P) => drop_any wx p g P k Hx
    generalize drop P k = P' at hdr ⊢
    have HD := Hid.of hdr
    clear e ok hfo HFO OK hdr
    go_enter Tryd.func19, Tryd.ntmps19
    go_wp2
    go_region_held3 (fun wx => wx.cell? ⟨p.b, 0, none⟩ = some (.pointer (some ⟨p.c.c, 0, none⟩)) ∧ wx.cell? ⟨A, 4, none⟩ = some (.int .u64 h))
      (first | exact ⟨y0, x4⟩ | exact ⟨y0', x4'⟩)
      (first
        | (go_at_call 24; refine q.mono ?_; clear q; rintro e w3 ⟨rfl, k3⟩; have y0' := keep_cell1 k3.of_drew y0; have x4' := keep_cell1 k3.of_drew x4; have HK := Hid.of k3.of_drew; clear k3))
    clear y0' x4' y0
    have P3 := HB0.out.2.old HK.out
    have b3 := HK.out.at HB0.out.1 (fun x => x)
    obtain ⟨⟨d0, -, -, -, -, -⟩, g0, -, -, -, -, -⟩ := six_cells b3
    obtain ⟨w4, hw4⟩ : ∃ x, w3.setCell ⟨B, 0, none⟩ (.int .i64 0) = x := ⟨_, rfl⟩
    have b4 : w4.heap[B]? = some (.cells (acells ⟨0, 0, 0, 0, bs [], 0⟩) 36 (0, 0)) := by rw [← hw4]; exact set_of b3 0 _
    have k4 : Keeps (fun x => x = B) w3 w4 := by rw [← hw4]; exact kset _ B 0 _
    have P4 := P3.set k4
    have qd := HD.out w4 g P4.1
    have HP4 := Hid.of (And.intro b4 P4)
    clear P3 b3 b4 k4 P4 HD HH2 HB0 HK
    go_wp2_with fail
    refine qd.mono ?_
    rintro e w5 ⟨rfl, g5, r5⟩
    have P5 := HP4.out.2.step r5
    have b5 := r5.2.1.at HP4.out.1 HP4.out.2.nf
    have bb := b5
    obtain ⟨⟨c0, c1, c2, c3, c4, c5⟩, f0, f1, f2, f3, f4, f5⟩ := six_cells bb
    obtain ⟨wf, hwf⟩ : ∃ wf, (((((w5.setCell ⟨B, 0, none⟩ (.int .i64 0)).setCell ⟨B, 1, none⟩ (.int .u64 0)).setCell ⟨B, 2, none⟩ (.int .i64 0)).setCell ⟨B, 3, none⟩ (.int .i64 0)).setCell ⟨B, 4, none⟩ (.string (bs []))).setCell ⟨B, 5, none⟩ (.int .i64 0) = wf := ⟨_, rfl⟩
    have bf := set6 bb (.int .i64 0) (.int .u64 0) (.int .i64 0) (.int .i64 0) (.string (bs [])) (.int .i64 0)
    rw [hwf] at bf
    have kf : Keeps (fun x => x = B) w5 wf := by rw [← hwf]; exact (((((kset _ B 0 _).trans (kset _ B 1 _)).trans (kset _ B 2 _)).trans (kset _ B 3 _)).trans (kset _ B 4 _)).trans (kset _ B 5 _)
    have HF := Hid.of ((P5.set kf).pr)
    obtain ⟨⟨e0, e1, e2, e3, e4, e5⟩, -⟩ := six_cells bf
    clear qd r5 b5 P5 bb bf kf HP4
    go_wp2
    refine bodyPost_ret (v := .agg #[.int .i64 0, .int .u64 0, .int .i64 0, .int .i64 0, .string (bs []), .int .i64 0]) ?_ ?_ ?_
    · simp [results, Tryd.results19, go_sem, e0, e1, e2, e3, e4, e5]
    · rfl
    · exact ⟨rfl, HF.out⟩
  · rw [if_neg hE]
    have t0 : (E == 0) = false := by simpa using hE
    clear e ok hfo HFO OK hE
    go_enter Tryd.func19, Tryd.ntmps19
    go_wp2
    go_region_held3 (fun wx => wx.cell? ⟨p.b, 0, none⟩ = some (.pointer (some ⟨p.c.c, 0, none⟩)) ∧ wx.cell? ⟨A, 4, none⟩ = some (.int .u64 h))
      (first | exact ⟨y0, x4⟩ | exact ⟨y0', x4'⟩)
      (first
        | (go_at_call 24; refine q.mono ?_; clear q; rintro e w3 ⟨rfl, k3⟩; have y0' := keep_cell1 k3.of_drew y0; have x4' := keep_cell1 k3.of_drew x4; have HK := Hid.of k3.of_drew; clear k3))
    clear y0' x4' y0
    have P3 := HB0.out.2.old HK.out
    have b3 := HK.out.at HB0.out.1 (fun x => x)
    obtain ⟨⟨d0, -, -, -, -, -⟩, g0, -, -, -, -, -⟩ := six_cells b3
    obtain ⟨w4, hw4⟩ : ∃ x, w3.setCell ⟨B, 0, none⟩ (.int .i64 E) = x := ⟨_, rfl⟩
    have b4 : w4.heap[B]? = some (.cells (acells ⟨E, 0, 0, 0, bs [], 0⟩) 36 (0, 0)) := by rw [← hw4]; exact set_of b3 0 _
    have k4 : Keeps (fun x => x = B) w3 w4 := by rw [← hw4]; exact kset _ B 0 _
    have P4 := P3.set k4
    have bb := b4
    obtain ⟨⟨c0, c1, c2, c3, c4, c5⟩, f0, f1, f2, f3, f4, f5⟩ := six_cells bb
    obtain ⟨wf, hwf⟩ : ∃ wf, (((((w4.setCell ⟨B, 0, none⟩ (.int .i64 E)).setCell ⟨B, 1, none⟩ (.int .u64 0)).setCell ⟨B, 2, none⟩ (.int .i64 0)).setCell ⟨B, 3, none⟩ (.int .i64 0)).setCell ⟨B, 4, none⟩ (.string (bs []))).setCell ⟨B, 5, none⟩ (.int .i64 0) = wf := ⟨_, rfl⟩
    have bf := set6 bb (.int .i64 E) (.int .u64 0) (.int .i64 0) (.int .i64 0) (.string (bs [])) (.int .i64 0)
    rw [hwf] at bf
    have kf : Keeps (fun x => x = B) w4 wf := by rw [← hwf]; exact (((((kset _ B 0 _).trans (kset _ B 1 _)).trans (kset _ B 2 _)).trans (kset _ B 3 _)).trans (kset _ B 4 _)).trans (kset _ B 5 _)
    have HF := Hid.of ((P4.set kf).pr)
    obtain ⟨⟨e0, e1, e2, e3, e4, e5⟩, -⟩ := six_cells bf
    clear P3 b3 b4 k4 P4 HH2 HB0 HK bb bf kf
    go_wp2
    refine bodyPost_ret (v := .agg #[.int .i64 E, .int .u64 0, .int .i64 0, .int .i64 0, .string (bs []), .int .i64 0]) ?_ ?_ ?_
    · simp [results, Tryd.results19, go_sem, e0, e1, e2, e3, e4, e5]
    · rfl
    · exact ⟨rfl, HF.out⟩

set_option maxRecDepth 100000 in
set_option maxHeartbeats 2000000 in
theorem do_8 (w : World) (p : Plc) (g : Int → Nat) (P : PP) (t n m : Int) (h : Nat) (d : Bs) (H : PAt w p g P) (ok : Ok P) (hT : Sh.Tab w) (hh : h < 18446744073709551616) (hd : d.length ≤ 8192) (hn : -9223372036854775808 ≤ n ∧ n ≤ 9223372036854775807) (hm : -9223372036854775808 ≤ m ∧ m ≤ 9223372036854775807) :
    Calls Tryd.prog 19 #[.pointer (some ⟨p.b, 0, none⟩), .agg #[.int .i64 8, .int .i64 t, .int .i64 n, .int .i64 m, .int .u64 h, .string (bs d)]] w (DoR w p g P (pdo P 8 n m h d).1 (pdo P 8 n m h d).2) := by
  have e : pdo P 8 n m h d = (⟨(Ca.Fnd P.C h 0).2, 0, 0, if (Ca.Fnd P.C h 0).2 = 0 then (obj P (Ca.Fnd P.C h 0).1).cost else 0, bs [], 0⟩, P) := by unfold pdo; rw [if_neg (by decide), if_neg (by decide), if_neg (by decide), if_neg (by decide), if_pos rfl]
  rw [e]
  obtain ⟨A, hA⟩ : ∃ A, w.heap.size = A := ⟨_, rfl⟩
  obtain ⟨w1, hw1⟩ : ∃ w1, w.alloc (.cells #[.int .i64 8, .int .i64 t, .int .i64 n, .int .i64 m, .int .u64 h, .string (bs d)] 34) = w1 := ⟨_, rfl⟩
  obtain ⟨B, hB⟩ : ∃ B, w1.heap.size = B := ⟨_, rfl⟩
  obtain ⟨w2, hw2⟩ : ∃ w2, w1.alloc (.cells #[.int .i64 0, .int .u64 0, .int .i64 0, .int .i64 0, .string ⟨#[]⟩, .int .i64 0] 36) = w2 := ⟨_, rfl⟩
  have k1 : Keeps (fun _ => False) w w1 := by rw [← hw1]; exact (Keeps.refl _ _).alloc _
  have k2' : Keeps (fun _ => False) w1 w2 := by rw [← hw2]; exact (Keeps.refl _ _).alloc _
  have k2 := k1.trans k2'
  have a1 : w1.heap[A]? = some (.cells #[.int .i64 8, .int .i64 t, .int .i64 n, .int .i64 m, .int .u64 h, .string (bs d)] 34 (0, 0)) := by rw [← hw1, ← hA]; exact alloc_new _ _
  have a2 := k2'.at a1 (fun x => x)
  have b2 : w2.heap[B]? = some (.cells (acells ⟨0, 0, 0, 0, bs [], 0⟩) 36 (0, 0)) := by rw [← hw2, ← hB]; exact alloc_new _ _
  have hBw : w.heap.size ≤ B := by have := k1.size; omega
  have hAB : A < B := by have := lt_of a1; omega
  have H2 := H.old k2
  have T2 := hT.old k2
  have nfB : ¬ Fp p g P.E B := fun hx => by have := H.lt hx; omega
  have nfA : ¬ Fp p g P.E A := fun hx => by have := H.lt hx; omega
  obtain ⟨x0, x1, x2, x3, x4, x5⟩ := (six_cells a2).1
  have P2 := PB.start H k2 hBw (lt_of b2)
  have hAf := Hid.of (And.intro a2 (And.intro nfA hAB))
  have HB0 := Hid.of (And.intro b2 P2)
  have HH2 := Hid.of (And.intro H2 T2)
  clear k1 k2' a1 a2 b2 hBw nfB nfA H hT k2 hAB P2
  have q := Ca.Find_any w2.drew p.c P.C h 0 HH2.out.1.drew.caps hh
  have y0 := cell_of (v := .pointer (some ⟨p.c.c, 0, none⟩)) HH2.out.1.cells 0 rfl
  have hfo := fun h0 => ok.fnd (h := h) (r := 0) h0
  generalize (Ca.Fnd P.C h 0).1 = k at q hfo ⊢
  generalize (Ca.Fnd P.C h 0).2 = E at q hfo ⊢
  have HFO := Hid.of hfo
  have OK := Hid.of ok
  by_cases hE : E = 0
  · subst hE
    rw [if_pos rfl]
    obtain ⟨ob, hob⟩ := hfo rfl
    have hobj : obj P k = ob := by unfold obj; rw [hob]; rfl
    rw [hobj]
    obtain ⟨obb, oc⟩ := ob
    have HOB := Hid.of hob
    dsimp only
    clear e ok hfo HFO OK hob hobj
    go_enter Tryd.func19, Tryd.ntmps19
    go_wp2
    go_region_held3 (fun wx => wx.cell? ⟨p.b, 0, none⟩ = some (.pointer (some ⟨p.c.c, 0, none⟩)) ∧ wx.cell? ⟨A, 4, none⟩ = some (.int .u64 h))
      (first | exact ⟨y0, x4⟩ | exact ⟨y0', x4'⟩)
      (first
        | (go_at_call 24; refine q.mono ?_; clear q; rintro e w3 ⟨rfl, k3⟩; have y0' := keep_cell1 k3.of_drew y0; have x4' := keep_cell1 k3.of_drew x4; have HK := Hid.of k3.of_drew; clear k3))
    clear y0' x4' y0
    have P3 := HB0.out.2.old HK.out
    have b3 := HK.out.at HB0.out.1 (fun x => x)
    obtain ⟨⟨d0, -, -, -, -, -⟩, g0, -, -, -, -, -⟩ := six_cells b3
    obtain ⟨w4, hw4⟩ : ∃ x, w3.setCell ⟨B, 0, none⟩ (.int .i64 0) = x := ⟨_, rfl⟩
    have b4 : w4.heap[B]? = some (.cells (acells ⟨0, 0, 0, 0, bs [], 0⟩) 36 (0, 0)) := by rw [← hw4]; exact set_of b3 0 _
    have k4 : Keeps (fun x => x = B) w3 w4 := by rw [← hw4]; exact kset _ B 0 _
    have P4 := P3.set k4
    have lk := P4.1.look HOB.out
    have c4' := cell_of (v := .map (some p.ob)) P4.1.cells 4 rfl
    have hfl := fld_cost
    obtain ⟨⟨-, -, -, dn, -, -⟩, -, -, -, gn, -, -⟩ := six_cells b4
    obtain ⟨w5, hw5⟩ : ∃ x, w4.setCell ⟨B, 3, none⟩ (.int .i64 oc) = x := ⟨_, rfl⟩
    have b5 : w5.heap[B]? = some (.cells (acells ⟨0, 0, 0, oc, bs [], 0⟩) 36 (0, 0)) := by rw [← hw5]; exact set_of b4 3 _
    have k5 : Keeps (fun x => x = B) w4 w5 := by rw [← hw5]; exact kset _ B 3 _
    have P5 := P4.set k5
    have bb := b5
    obtain ⟨⟨c0, c1, c2, c3, c4, c5⟩, f0, f1, f2, f3, f4, f5⟩ := six_cells bb
    obtain ⟨wf, hwf⟩ : ∃ wf, (((((w5.setCell ⟨B, 0, none⟩ (.int .i64 0)).setCell ⟨B, 1, none⟩ (.int .u64 0)).setCell ⟨B, 2, none⟩ (.int .i64 0)).setCell ⟨B, 3, none⟩ (.int .i64 oc)).setCell ⟨B, 4, none⟩ (.string (bs []))).setCell ⟨B, 5, none⟩ (.int .i64 0) = wf := ⟨_, rfl⟩
    have bf := set6 bb (.int .i64 0) (.int .u64 0) (.int .i64 0) (.int .i64 oc) (.string (bs [])) (.int .i64 0)
    rw [hwf] at bf
    have kf : Keeps (fun x => x = B) w5 wf := by rw [← hwf]; exact (((((kset _ B 0 _).trans (kset _ B 1 _)).trans (kset _ B 2 _)).trans (kset _ B 3 _)).trans (kset _ B 4 _)).trans (kset _ B 5 _)
    have HF := Hid.of ((P5.set kf).pr)
    obtain ⟨⟨e0, e1, e2, e3, e4, e5⟩, -⟩ := six_cells bf
    clear P3 b3 b4 k4 P4 HH2 HB0 HK b5 k5 P5 bb bf kf HOB
    go_wp2
    refine bodyPost_ret (v := .agg #[.int .i64 0, .int .u64 0, .int .i64 0, .int .i64 oc, .string (bs []), .int .i64 0]) ?_ ?_ ?_
    · simp [results, Tryd.results19, go_sem, e0, e1, e2, e3, e4, e5]
    · rfl
    · exact ⟨rfl, HF.out⟩
  · rw [if_neg hE]
    have t0 : (E == 0) = false := by simpa using hE
    clear e ok hfo HFO OK hE
    go_enter Tryd.func19, Tryd.ntmps19
    go_wp2
    go_region_held3 (fun wx => wx.cell? ⟨p.b, 0, none⟩ = some (.pointer (some ⟨p.c.c, 0, none⟩)) ∧ wx.cell? ⟨A, 4, none⟩ = some (.int .u64 h))
      (first | exact ⟨y0, x4⟩ | exact ⟨y0', x4'⟩)
      (first
        | (go_at_call 24; refine q.mono ?_; clear q; rintro e w3 ⟨rfl, k3⟩; have y0' := keep_cell1 k3.of_drew y0; have x4' := keep_cell1 k3.of_drew x4; have HK := Hid.of k3.of_drew; clear k3))
    clear y0' x4' y0
    have P3 := HB0.out.2.old HK.out
    have b3 := HK.out.at HB0.out.1 (fun x => x)
    obtain ⟨⟨d0, -, -, -, -, -⟩, g0, -, -, -, -, -⟩ := six_cells b3
    obtain ⟨w4, hw4⟩ : ∃ x, w3.setCell ⟨B, 0, none⟩ (.int .i64 E) = x := ⟨_, rfl⟩
    have b4 : w4.heap[B]? = some (.cells (acells ⟨E, 0, 0, 0, bs [], 0⟩) 36 (0, 0)) := by rw [← hw4]; exact set_of b3 0 _
    have k4 : Keeps (fun x => x = B) w3 w4 := by rw [← hw4]; exact kset _ B 0 _
    have P4 := P3.set k4
    have bb := b4
    obtain ⟨⟨c0, c1, c2, c3, c4, c5⟩, f0, f1, f2, f3, f4, f5⟩ := six_cells bb
    obtain ⟨wf, hwf⟩ : ∃ wf, (((((w4.setCell ⟨B, 0, none⟩ (.int .i64 E)).setCell ⟨B, 1, none⟩ (.int .u64 0)).setCell ⟨B, 2, none⟩ (.int .i64 0)).setCell ⟨B, 3, none⟩ (.int .i64 0)).setCell ⟨B, 4, none⟩ (.string (bs []))).setCell ⟨B, 5, none⟩ (.int .i64 0) = wf := ⟨_, rfl⟩
    have bf := set6 bb (.int .i64 E) (.int .u64 0) (.int .i64 0) (.int .i64 0) (.string (bs [])) (.int .i64 0)
    rw [hwf] at bf
    have kf : Keeps (fun x => x = B) w4 wf := by rw [← hwf]; exact (((((kset _ B 0 _).trans (kset _ B 1 _)).trans (kset _ B 2 _)).trans (kset _ B 3 _)).trans (kset _ B 4 _)).trans (kset _ B 5 _)
    have HF := Hid.of ((P4.set kf).pr)
    obtain ⟨⟨e0, e1, e2, e3, e4, e5⟩, -⟩ := six_cells bf
    clear P3 b3 b4 k4 P4 HH2 HB0 HK bb bf kf
    go_wp2
    refine bodyPost_ret (v := .agg #[.int .i64 E, .int .u64 0, .int .i64 0, .int .i64 0, .string (bs []), .int .i64 0]) ?_ ?_ ?_
    · simp [results, Tryd.results19, go_sem, e0, e1, e2, e3, e4, e5]
    · rfl
    · exact ⟨rfl, HF.out⟩

end Mo
end Go.Proofs.YtagmkkddjdlncaaDoor
