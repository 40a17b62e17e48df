/- The script package's tape: step. -/
import Derived.Test.YtmlolkjgniodpaaScrH
set_option linter.unusedVariables false
set_option linter.unusedSimpArgs false
namespace Go.Proofs.Ytmlolkjgniodpaa
open Go.RowKit Go.ChangeMaps
namespace Scr
set_option maxRecDepth 100000 in
set_option maxHeartbeats 2000000 in
theorem step_nm (w : World) (b : Nat) (t : Tp) (k : Int) (hks : k = 1 ∨ k = 2 ∨ k = 5) (ht : TAt w b t) (h : t.rest ≠ []) (hl : t.rest.length ≤ 1000000) (hk : (tone t).1 % 16 = k) :
    Calls Try.prog 63 #[.pointer (some ⟨b, 0, none⟩)] w fun e w' => e = .returned (.tuple #[(tstep t).1.1.val, .bool (tstep t).1.2]) ∧ TAt w' b (tstep t).2 ∧ Keeps (fun x => x = b) w w' := by
  have HT := tstep_of t k h hk
  have l1 := tone_rest t
  have l2 := tone_rest (tone t).2
  obtain ⟨b1, b2⟩ := tone_bd t
  have q1 := fun (w : World) (ht : TAt w b t) => one_any w b t ht hl
  have q2 := fun (w : World) (ht : TAt w b (tone t).2) => one_any w b _ ht (by omega)
  rcases hks with rfl | rfl | rfl
  · have c0 := cell_of (v := .string (bs t.rest)) ht 0 rfl
    have hie : List.isEmpty t.rest = false := by cases hr : t.rest with
      | nil => exact absurd hr h
      | cons a l => rfl
    generalize tstep t = ts at *
    generalize hn1 : (tone t).1 = n1 at *
    generalize ht1 : (tone t).2 = t1 at *
    generalize hn2 : (tone t1).1 = n2 at *
    generalize ht2 : (tone t1).2 = t2 at *
    clear hn1 ht1 hn2 ht2
    have e1 : tail1 1 t2 = ((0, 0), t2) := rfl
    rw [e1] at HT
    simp only [] at HT
    have l4 := tnum_rest t2
    have q4 := fun (w : World) (ht : TAt w b t2) => num_any w b t2 ht (by omega)
    have q5 := fun (w : World) (ht : TAt w b (tnum t2).2) => num_any w b (tnum t2).2 ht (by omega)
    have e2 : tail2 1 t2 = (((tnum t2).1, (tnum (tnum t2).2).1, []), (tnum (tnum t2).2).2) := rfl
    rw [e2] at HT
    simp only [] at HT
    generalize (tnum t2).1 = v1 at *
    generalize (tnum t2).2 = t4 at *
    generalize (tnum t4).1 = v2 at *
    generalize (tnum t4).2 = tf at *
    have HTS := Hid.of HT
    clear HT h l1 l2 e1 e2
    have hxb : b < w.heap.size := lt_of ht
    obtain ⟨w1, hw1⟩ : ∃ w1, w.alloc (.cells #[.int .i64 0, .int .i64 0, .int .i64 0, .int .i64 0, .int .u64 0, .string ⟨#[]⟩, .int .i64 0] 108) = w1 := ⟨_, rfl⟩
    have x1 : XAt w1 w.heap.size zero := by rw [← hw1]; exact alloc_new _ _
    have K1 : Keeps (fun x => x = b) w w1 := by rw [← hw1]; exact (Keeps.refl _ _).alloc _
    have t1' : TAt w1 b t := by rw [← hw1]; exact alloc_old ht _
    have c01 := cell_of (v := .string (bs t.rest)) t1' 0 rfl
    go_enter Try.func63, Try.ntmps63
    go_wp2
    refine wp_scope_fwd 0 rfl ?_
    obtain ⟨xb, hxe⟩ : ∃ xb, w.heap.size = xb := ⟨_, rfl⟩
    rw [hxe] at x1 hxb
    have HXB := Hid.of hxe
    have hbx : b ≠ xb := by omega
    have hxk : ¬ xb = b := by omega
    clear hw1 c0 ht
    go_wp2_with fail
    refine (q1 w1 t1').mono ?_
    rintro e w2 ⟨rfl, t2', k2⟩
    have x2 := (x1.keep k2 hxk).set_kind 1
    have k3 := kset w2 xb 0 (.int .i64 1)
    obtain ⟨w3, hw3⟩ : ∃ w3, w2.setCell ⟨xb, 0, none⟩ (.int .i64 1) = w3 := ⟨_, rfl⟩
    have ff := (x1.keep k2 hxk).free
    obtain ⟨f0, f1, f2, f3, f4, f5, f6⟩ := ff
    have aa := (x1.keep k2 hxk).all
    obtain ⟨a0, a1, a2, a3, a4, a5, a6⟩ := aa
    rw [hw3] at x2 k3
    have t3' := t2'.keep k3 hbx
    have K3 := Keeps.two K1 k2 k3 (by omega) HXB.out
    clear q1 x1 k2 k3 t1' t2' c01 K1
    go_wp2_with fail
    refine (q2 w3 t3').mono ?_
    rintro e w4 ⟨rfl, t4', k4⟩
    clear f0 f1 f2 f3 f4 f5 f6 a0 a1 a2 a3 a4 a5 a6 hw3
    have x4 := (x2.keep k4 hxk).set_tenant n2
    obtain ⟨f0, f1, f2, f3, f4, f5, f6⟩ := (x2.keep k4 hxk).free
    obtain ⟨a0, a1, a2, a3, a4, a5, a6⟩ := (x2.keep k4 hxk).all
    have k5 := kset w4 xb 1 (.int .i64 n2)
    obtain ⟨w5, hw5⟩ : ∃ w5, w4.setCell ⟨xb, 1, none⟩ (.int .i64 n2) = w5 := ⟨_, rfl⟩
    rw [hw5] at x4 k5
    have t5' := t4'.keep k5 hbx
    have K5 := Keeps.two K3 k4 k5 (by omega) HXB.out
    have z0 := cell_of (v := .int .i64 1) x4 0 rfl
    clear q2 x2 k4 k5 t3' t4' K3
    go_wp2_with fail
    refine (q4 w5 t5').mono ?_
    rintro e w7 ⟨rfl, t7', k7⟩
    go_wp2_with fail
    refine (q5 w7 t7').mono ?_
    rintro e w8 ⟨rfl, t8', k8⟩
    clear f0 f1 f2 f3 f4 f5 f6 a0 a1 a2 a3 a4 a5 a6 hw5 z0
    have x8 := (x4.keep k7 hxk).keep k8 hxk
    obtain ⟨f0, f1, f2, f3, f4, f5, f6⟩ := x8.free
    obtain ⟨a0, a1, a2, a3, a4, a5, a6⟩ := x8.all
    have x9 := (x8.set_n v1).set_m v2
    have k9 := (kset w8 xb 2 (.int .i64 v1)).trans (kset _ xb 3 (.int .i64 v2))
    obtain ⟨w9, hw9⟩ : ∃ w9, (w8.setCell ⟨xb, 2, none⟩ (.int .i64 v1)).setCell ⟨xb, 3, none⟩ (.int .i64 v2) = w9 := ⟨_, rfl⟩
    rw [hw9] at x9 k9
    have t9' := t8'.keep k9 hbx
    have K9 := Keeps.two (K5.trans k7) k8 k9 (by omega) HXB.out
    simp only [] at x9
    clear q4 q5 x4 k7 k8 k9 x8 t7' t8'
    simp only [zero] at x9
    obtain ⟨g0, g1, g2, g3, g4, g5, g6⟩ := x9.free
    obtain ⟨h0, h1, h2, h3, h4, h5, h6⟩ := x9.all
    have sh := cell_of (v := .bool tf.short) t9' 1 rfl
    by_cases hsf : tf.short = true
    · rw [hsf] at sh
      have hts : ts = ((zero, false), tf) := by have := HTS.out; rw [if_pos hsf] at this; exact this
      have xz := x9.store zero
      have kz := ksets w9 xb zero
      obtain ⟨wz, hwz⟩ : ∃ wz, (((((((w9.setCell ⟨xb, 0, none⟩ (.int .i64 0)).setCell ⟨xb, 1, none⟩ (.int .i64 0)).setCell ⟨xb, 2, none⟩ (.int .i64 0)).setCell ⟨xb, 3, none⟩ (.int .i64 0)).setCell ⟨xb, 4, none⟩ (.int .u64 0)).setCell ⟨xb, 5, none⟩ (.string ⟨#[]⟩)).setCell ⟨xb, 6, none⟩ (.int .i64 0)) = wz := ⟨_, rfl⟩
      have hwz' : stored w9 xb zero = wz := hwz
      rw [hwz'] at xz kz
      have tz := (t9').keep kz hbx
      have Kz : Keeps (fun x => x = b) w wz := K9.trans' kz (fun x e hl => by have := HXB.out; omega)
      obtain ⟨y0, y1, y2, y3, y4, y5, y6⟩ := xz.all
      have HF := Hid.of (And.intro tz Kz)
      have HY := Hid.of (And.intro y0 (And.intro y1 (And.intro y2 (And.intro y3 (And.intro y4 (And.intro y5 y6))))))
      subst hts
      clear HTS xz kz tz Kz hwz' y0 y1 y2 y3 y4 y5 y6 hsf
      go_wp2
      go_step3
      go_wp2
      obtain ⟨y0, y1, y2, y3, y4, y5, y6⟩ := HY.out
      try simp only [Exit.jump, Exit.inBlock, Exit.then]
      refine bodyPost_ret (v := .tuple #[Stp.val zero, .bool false]) ?_ ?_ ?_
      · simp [results, Try.results63, go_sem, y0, y1, y2, y3, y4, y5, y6, Stp.val]
      · rfl
      · exact ⟨rfl, HF.out⟩
    · have hsf' : tf.short = false := by simpa using hsf
      rw [hsf'] at sh
      have hts : ts = ((⟨1, n2, v1, v2, 0, [], 0⟩, true), tf) := by have := HTS.out; rw [if_neg hsf] at this; exact this
      have xz := x9.store ⟨1, n2, v1, v2, 0, [], 0⟩
      have kz := ksets w9 xb ⟨1, n2, v1, v2, 0, [], 0⟩
      obtain ⟨wz, hwz⟩ : ∃ wz, (((((((w9.setCell ⟨xb, 0, none⟩ (.int .i64 1)).setCell ⟨xb, 1, none⟩ (.int .i64 n2)).setCell ⟨xb, 2, none⟩ (.int .i64 v1)).setCell ⟨xb, 3, none⟩ (.int .i64 v2)).setCell ⟨xb, 4, none⟩ (.int .u64 0)).setCell ⟨xb, 5, none⟩ (.string (bs []))).setCell ⟨xb, 6, none⟩ (.int .i64 0)) = wz := ⟨_, rfl⟩
      have hwz' : stored w9 xb ⟨1, n2, v1, v2, 0, [], 0⟩ = wz := hwz
      rw [hwz'] at xz kz
      have tz := (t9').keep kz hbx
      have Kz : Keeps (fun x => x = b) w wz := K9.trans' kz (fun x e hl => by have := HXB.out; omega)
      obtain ⟨y0, y1, y2, y3, y4, y5, y6⟩ := xz.all
      have HF := Hid.of (And.intro tz Kz)
      have HY := Hid.of (And.intro y0 (And.intro y1 (And.intro y2 (And.intro y3 (And.intro y4 (And.intro y5 y6))))))
      subst hts
      clear HTS xz kz tz Kz hwz' y0 y1 y2 y3 y4 y5 y6 hsf hsf'
      go_wp2
      obtain ⟨y0, y1, y2, y3, y4, y5, y6⟩ := HY.out
      try simp only [Exit.jump, Exit.inBlock, Exit.then]
      refine bodyPost_ret (v := .tuple #[Stp.val ⟨1, n2, v1, v2, 0, [], 0⟩, .bool true]) ?_ ?_ ?_
      · simp [results, Try.results63, go_sem, y0, y1, y2, y3, y4, y5, y6, Stp.val]
      · rfl
      · exact ⟨rfl, HF.out⟩
  · have c0 := cell_of (v := .string (bs t.rest)) ht 0 rfl
    have hie : List.isEmpty t.rest = false := by cases hr : t.rest with
      | nil => exact absurd hr h
      | cons a l => rfl
    generalize tstep t = ts at *
    generalize hn1 : (tone t).1 = n1 at *
    generalize ht1 : (tone t).2 = t1 at *
    generalize hn2 : (tone t1).1 = n2 at *
    generalize ht2 : (tone t1).2 = t2 at *
    clear hn1 ht1 hn2 ht2
    have e1 : tail1 2 t2 = ((0, 0), t2) := rfl
    rw [e1] at HT
    simp only [] at HT
    have l4 := tnum_rest t2
    have q4 := fun (w : World) (ht : TAt w b t2) => num_any w b t2 ht (by omega)
    have q5 := fun (w : World) (ht : TAt w b (tnum t2).2) => num_any w b (tnum t2).2 ht (by omega)
    have e2 : tail2 2 t2 = (((tnum t2).1, (tnum (tnum t2).2).1, []), (tnum (tnum t2).2).2) := rfl
    rw [e2] at HT
    simp only [] at HT
    generalize (tnum t2).1 = v1 at *
    generalize (tnum t2).2 = t4 at *
    generalize (tnum t4).1 = v2 at *
    generalize (tnum t4).2 = tf at *
    have HTS := Hid.of HT
    clear HT h l1 l2 e1 e2
    have hxb : b < w.heap.size := lt_of ht
    obtain ⟨w1, hw1⟩ : ∃ w1, w.alloc (.cells #[.int .i64 0, .int .i64 0, .int .i64 0, .int .i64 0, .int .u64 0, .string ⟨#[]⟩, .int .i64 0] 108) = w1 := ⟨_, rfl⟩
    have x1 : XAt w1 w.heap.size zero := by rw [← hw1]; exact alloc_new _ _
    have K1 : Keeps (fun x => x = b) w w1 := by rw [← hw1]; exact (Keeps.refl _ _).alloc _
    have t1' : TAt w1 b t := by rw [← hw1]; exact alloc_old ht _
    have c01 := cell_of (v := .string (bs t.rest)) t1' 0 rfl
    go_enter Try.func63, Try.ntmps63
    go_wp2
    refine wp_scope_fwd 0 rfl ?_
    obtain ⟨xb, hxe⟩ : ∃ xb, w.heap.size = xb := ⟨_, rfl⟩
    rw [hxe] at x1 hxb
    have HXB := Hid.of hxe
    have hbx : b ≠ xb := by omega
    have hxk : ¬ xb = b := by omega
    clear hw1 c0 ht
    go_wp2_with fail
    refine (q1 w1 t1').mono ?_
    rintro e w2 ⟨rfl, t2', k2⟩
    have x2 := (x1.keep k2 hxk).set_kind 2
    have k3 := kset w2 xb 0 (.int .i64 2)
    obtain ⟨w3, hw3⟩ : ∃ w3, w2.setCell ⟨xb, 0, none⟩ (.int .i64 2) = w3 := ⟨_, rfl⟩
    have ff := (x1.keep k2 hxk).free
    obtain ⟨f0, f1, f2, f3, f4, f5, f6⟩ := ff
    have aa := (x1.keep k2 hxk).all
    obtain ⟨a0, a1, a2, a3, a4, a5, a6⟩ := aa
    rw [hw3] at x2 k3
    have t3' := t2'.keep k3 hbx
    have K3 := Keeps.two K1 k2 k3 (by omega) HXB.out
    clear q1 x1 k2 k3 t1' t2' c01 K1
    go_wp2_with fail
    refine (q2 w3 t3').mono ?_
    rintro e w4 ⟨rfl, t4', k4⟩
    clear f0 f1 f2 f3 f4 f5 f6 a0 a1 a2 a3 a4 a5 a6 hw3
    have x4 := (x2.keep k4 hxk).set_tenant n2
    obtain ⟨f0, f1, f2, f3, f4, f5, f6⟩ := (x2.keep k4 hxk).free
    obtain ⟨a0, a1, a2, a3, a4, a5, a6⟩ := (x2.keep k4 hxk).all
    have k5 := kset w4 xb 1 (.int .i64 n2)
    obtain ⟨w5, hw5⟩ : ∃ w5, w4.setCell ⟨xb, 1, none⟩ (.int .i64 n2) = w5 := ⟨_, rfl⟩
    rw [hw5] at x4 k5
    have t5' := t4'.keep k5 hbx
    have K5 := Keeps.two K3 k4 k5 (by omega) HXB.out
    have z0 := cell_of (v := .int .i64 2) x4 0 rfl
    clear q2 x2 k4 k5 t3' t4' K3
    go_wp2_with fail
    refine (q4 w5 t5').mono ?_
    rintro e w7 ⟨rfl, t7', k7⟩
    go_wp2_with fail
    refine (q5 w7 t7').mono ?_
    rintro e w8 ⟨rfl, t8', k8⟩
    clear f0 f1 f2 f3 f4 f5 f6 a0 a1 a2 a3 a4 a5 a6 hw5 z0
    have x8 := (x4.keep k7 hxk).keep k8 hxk
    obtain ⟨f0, f1, f2, f3, f4, f5, f6⟩ := x8.free
    obtain ⟨a0, a1, a2, a3, a4, a5, a6⟩ := x8.all
    have x9 := (x8.set_n v1).set_m v2
    have k9 := (kset w8 xb 2 (.int .i64 v1)).trans (kset _ xb 3 (.int .i64 v2))
    obtain ⟨w9, hw9⟩ : ∃ w9, (w8.setCell ⟨xb, 2, none⟩ (.int .i64 v1)).setCell ⟨xb, 3, none⟩ (.int .i64 v2) = w9 := ⟨_, rfl⟩
    rw [hw9] at x9 k9
    have t9' := t8'.keep k9 hbx
    have K9 := Keeps.two (K5.trans k7) k8 k9 (by omega) HXB.out
    simp only [] at x9
    clear q4 q5 x4 k7 k8 k9 x8 t7' t8'
    simp only [zero] at x9
    obtain ⟨g0, g1, g2, g3, g4, g5, g6⟩ := x9.free
    obtain ⟨h0, h1, h2, h3, h4, h5, h6⟩ := x9.all
    have sh := cell_of (v := .bool tf.short) t9' 1 rfl
    by_cases hsf : tf.short = true
    · rw [hsf] at sh
      have hts : ts = ((zero, false), tf) := by have := HTS.out; rw [if_pos hsf] at this; exact this
      have xz := x9.store zero
      have kz := ksets w9 xb zero
      obtain ⟨wz, hwz⟩ : ∃ wz, (((((((w9.setCell ⟨xb, 0, none⟩ (.int .i64 0)).setCell ⟨xb, 1, none⟩ (.int .i64 0)).setCell ⟨xb, 2, none⟩ (.int .i64 0)).setCell ⟨xb, 3, none⟩ (.int .i64 0)).setCell ⟨xb, 4, none⟩ (.int .u64 0)).setCell ⟨xb, 5, none⟩ (.string ⟨#[]⟩)).setCell ⟨xb, 6, none⟩ (.int .i64 0)) = wz := ⟨_, rfl⟩
      have hwz' : stored w9 xb zero = wz := hwz
      rw [hwz'] at xz kz
      have tz := (t9').keep kz hbx
      have Kz : Keeps (fun x => x = b) w wz := K9.trans' kz (fun x e hl => by have := HXB.out; omega)
      obtain ⟨y0, y1, y2, y3, y4, y5, y6⟩ := xz.all
      have HF := Hid.of (And.intro tz Kz)
      have HY := Hid.of (And.intro y0 (And.intro y1 (And.intro y2 (And.intro y3 (And.intro y4 (And.intro y5 y6))))))
      subst hts
      clear HTS xz kz tz Kz hwz' y0 y1 y2 y3 y4 y5 y6 hsf
      go_wp2
      go_step3
      go_wp2
      obtain ⟨y0, y1, y2, y3, y4, y5, y6⟩ := HY.out
      try simp only [Exit.jump, Exit.inBlock, Exit.then]
      refine bodyPost_ret (v := .tuple #[Stp.val zero, .bool false]) ?_ ?_ ?_
      · simp [results, Try.results63, go_sem, y0, y1, y2, y3, y4, y5, y6, Stp.val]
      · rfl
      · exact ⟨rfl, HF.out⟩
    · have hsf' : tf.short = false := by simpa using hsf
      rw [hsf'] at sh
      have hts : ts = ((⟨2, n2, v1, v2, 0, [], 0⟩, true), tf) := by have := HTS.out; rw [if_neg hsf] at this; exact this
      have xz := x9.store ⟨2, n2, v1, v2, 0, [], 0⟩
      have kz := ksets w9 xb ⟨2, n2, v1, v2, 0, [], 0⟩
      obtain ⟨wz, hwz⟩ : ∃ wz, (((((((w9.setCell ⟨xb, 0, none⟩ (.int .i64 2)).setCell ⟨xb, 1, none⟩ (.int .i64 n2)).setCell ⟨xb, 2, none⟩ (.int .i64 v1)).setCell ⟨xb, 3, none⟩ (.int .i64 v2)).setCell ⟨xb, 4, none⟩ (.int .u64 0)).setCell ⟨xb, 5, none⟩ (.string (bs []))).setCell ⟨xb, 6, none⟩ (.int .i64 0)) = wz := ⟨_, rfl⟩
      have hwz' : stored w9 xb ⟨2, n2, v1, v2, 0, [], 0⟩ = wz := hwz
      rw [hwz'] at xz kz
      have tz := (t9').keep kz hbx
      have Kz : Keeps (fun x => x = b) w wz := K9.trans' kz (fun x e hl => by have := HXB.out; omega)
      obtain ⟨y0, y1, y2, y3, y4, y5, y6⟩ := xz.all
      have HF := Hid.of (And.intro tz Kz)
      have HY := Hid.of (And.intro y0 (And.intro y1 (And.intro y2 (And.intro y3 (And.intro y4 (And.intro y5 y6))))))
      subst hts
      clear HTS xz kz tz Kz hwz' y0 y1 y2 y3 y4 y5 y6 hsf hsf'
      go_wp2
      obtain ⟨y0, y1, y2, y3, y4, y5, y6⟩ := HY.out
      try simp only [Exit.jump, Exit.inBlock, Exit.then]
      refine bodyPost_ret (v := .tuple #[Stp.val ⟨2, n2, v1, v2, 0, [], 0⟩, .bool true]) ?_ ?_ ?_
      · simp [results, Try.results63, go_sem, y0, y1, y2, y3, y4, y5, y6, Stp.val]
      · rfl
      · exact ⟨rfl, HF.out⟩
  · have c0 := cell_of (v := .string (bs t.rest)) ht 0 rfl
    have hie : List.isEmpty t.rest = false := by cases hr : t.rest with
      | nil => exact absurd hr h
      | cons a l => rfl
    generalize tstep t = ts at *
    generalize hn1 : (tone t).1 = n1 at *
    generalize ht1 : (tone t).2 = t1 at *
    generalize hn2 : (tone t1).1 = n2 at *
    generalize ht2 : (tone t1).2 = t2 at *
    clear hn1 ht1 hn2 ht2
    have e1 : tail1 5 t2 = ((0, 0), t2) := rfl
    rw [e1] at HT
    simp only [] at HT
    have l4 := tnum_rest t2
    have q4 := fun (w : World) (ht : TAt w b t2) => num_any w b t2 ht (by omega)
    have q5 := fun (w : World) (ht : TAt w b (tnum t2).2) => num_any w b (tnum t2).2 ht (by omega)
    have e2 : tail2 5 t2 = (((tnum t2).1, (tnum (tnum t2).2).1, []), (tnum (tnum t2).2).2) := rfl
    rw [e2] at HT
    simp only [] at HT
    generalize (tnum t2).1 = v1 at *
    generalize (tnum t2).2 = t4 at *
    generalize (tnum t4).1 = v2 at *
    generalize (tnum t4).2 = tf at *
    have HTS := Hid.of HT
    clear HT h l1 l2 e1 e2
    have hxb : b < w.heap.size := lt_of ht
    obtain ⟨w1, hw1⟩ : ∃ w1, w.alloc (.cells #[.int .i64 0, .int .i64 0, .int .i64 0, .int .i64 0, .int .u64 0, .string ⟨#[]⟩, .int .i64 0] 108) = w1 := ⟨_, rfl⟩
    have x1 : XAt w1 w.heap.size zero := by rw [← hw1]; exact alloc_new _ _
    have K1 : Keeps (fun x => x = b) w w1 := by rw [← hw1]; exact (Keeps.refl _ _).alloc _
    have t1' : TAt w1 b t := by rw [← hw1]; exact alloc_old ht _
    have c01 := cell_of (v := .string (bs t.rest)) t1' 0 rfl
    go_enter Try.func63, Try.ntmps63
    go_wp2
    refine wp_scope_fwd 0 rfl ?_
    obtain ⟨xb, hxe⟩ : ∃ xb, w.heap.size = xb := ⟨_, rfl⟩
    rw [hxe] at x1 hxb
    have HXB := Hid.of hxe
    have hbx : b ≠ xb := by omega
    have hxk : ¬ xb = b := by omega
    clear hw1 c0 ht
    go_wp2_with fail
    refine (q1 w1 t1').mono ?_
    rintro e w2 ⟨rfl, t2', k2⟩
    have x2 := (x1.keep k2 hxk).set_kind 5
    have k3 := kset w2 xb 0 (.int .i64 5)
    obtain ⟨w3, hw3⟩ : ∃ w3, w2.setCell ⟨xb, 0, none⟩ (.int .i64 5) = w3 := ⟨_, rfl⟩
    have ff := (x1.keep k2 hxk).free
    obtain ⟨f0, f1, f2, f3, f4, f5, f6⟩ := ff
    have aa := (x1.keep k2 hxk).all
    obtain ⟨a0, a1, a2, a3, a4, a5, a6⟩ := aa
    rw [hw3] at x2 k3
    have t3' := t2'.keep k3 hbx
    have K3 := Keeps.two K1 k2 k3 (by omega) HXB.out
    clear q1 x1 k2 k3 t1' t2' c01 K1
    go_wp2_with fail
    refine (q2 w3 t3').mono ?_
    rintro e w4 ⟨rfl, t4', k4⟩
    clear f0 f1 f2 f3 f4 f5 f6 a0 a1 a2 a3 a4 a5 a6 hw3
    have x4 := (x2.keep k4 hxk).set_tenant n2
    obtain ⟨f0, f1, f2, f3, f4, f5, f6⟩ := (x2.keep k4 hxk).free
    obtain ⟨a0, a1, a2, a3, a4, a5, a6⟩ := (x2.keep k4 hxk).all
    have k5 := kset w4 xb 1 (.int .i64 n2)
    obtain ⟨w5, hw5⟩ : ∃ w5, w4.setCell ⟨xb, 1, none⟩ (.int .i64 n2) = w5 := ⟨_, rfl⟩
    rw [hw5] at x4 k5
    have t5' := t4'.keep k5 hbx
    have K5 := Keeps.two K3 k4 k5 (by omega) HXB.out
    have z0 := cell_of (v := .int .i64 5) x4 0 rfl
    clear q2 x2 k4 k5 t3' t4' K3
    go_wp2_with fail
    refine (q4 w5 t5').mono ?_
    rintro e w7 ⟨rfl, t7', k7⟩
    go_wp2_with fail
    refine (q5 w7 t7').mono ?_
    rintro e w8 ⟨rfl, t8', k8⟩
    clear f0 f1 f2 f3 f4 f5 f6 a0 a1 a2 a3 a4 a5 a6 hw5 z0
    have x8 := (x4.keep k7 hxk).keep k8 hxk
    obtain ⟨f0, f1, f2, f3, f4, f5, f6⟩ := x8.free
    obtain ⟨a0, a1, a2, a3, a4, a5, a6⟩ := x8.all
    have x9 := (x8.set_n v1).set_m v2
    have k9 := (kset w8 xb 2 (.int .i64 v1)).trans (kset _ xb 3 (.int .i64 v2))
    obtain ⟨w9, hw9⟩ : ∃ w9, (w8.setCell ⟨xb, 2, none⟩ (.int .i64 v1)).setCell ⟨xb, 3, none⟩ (.int .i64 v2) = w9 := ⟨_, rfl⟩
    rw [hw9] at x9 k9
    have t9' := t8'.keep k9 hbx
    have K9 := Keeps.two (K5.trans k7) k8 k9 (by omega) HXB.out
    simp only [] at x9
    clear q4 q5 x4 k7 k8 k9 x8 t7' t8'
    simp only [zero] at x9
    obtain ⟨g0, g1, g2, g3, g4, g5, g6⟩ := x9.free
    obtain ⟨h0, h1, h2, h3, h4, h5, h6⟩ := x9.all
    have sh := cell_of (v := .bool tf.short) t9' 1 rfl
    by_cases hsf : tf.short = true
    · rw [hsf] at sh
      have hts : ts = ((zero, false), tf) := by have := HTS.out; rw [if_pos hsf] at this; exact this
      have xz := x9.store zero
      have kz := ksets w9 xb zero
      obtain ⟨wz, hwz⟩ : ∃ wz, (((((((w9.setCell ⟨xb, 0, none⟩ (.int .i64 0)).setCell ⟨xb, 1, none⟩ (.int .i64 0)).setCell ⟨xb, 2, none⟩ (.int .i64 0)).setCell ⟨xb, 3, none⟩ (.int .i64 0)).setCell ⟨xb, 4, none⟩ (.int .u64 0)).setCell ⟨xb, 5, none⟩ (.string ⟨#[]⟩)).setCell ⟨xb, 6, none⟩ (.int .i64 0)) = wz := ⟨_, rfl⟩
      have hwz' : stored w9 xb zero = wz := hwz
      rw [hwz'] at xz kz
      have tz := (t9').keep kz hbx
      have Kz : Keeps (fun x => x = b) w wz := K9.trans' kz (fun x e hl => by have := HXB.out; omega)
      obtain ⟨y0, y1, y2, y3, y4, y5, y6⟩ := xz.all
      have HF := Hid.of (And.intro tz Kz)
      have HY := Hid.of (And.intro y0 (And.intro y1 (And.intro y2 (And.intro y3 (And.intro y4 (And.intro y5 y6))))))
      subst hts
      clear HTS xz kz tz Kz hwz' y0 y1 y2 y3 y4 y5 y6 hsf
      go_wp2
      go_step3
      go_wp2
      obtain ⟨y0, y1, y2, y3, y4, y5, y6⟩ := HY.out
      try simp only [Exit.jump, Exit.inBlock, Exit.then]
      refine bodyPost_ret (v := .tuple #[Stp.val zero, .bool false]) ?_ ?_ ?_
      · simp [results, Try.results63, go_sem, y0, y1, y2, y3, y4, y5, y6, Stp.val]
      · rfl
      · exact ⟨rfl, HF.out⟩
    · have hsf' : tf.short = false := by simpa using hsf
      rw [hsf'] at sh
      have hts : ts = ((⟨5, n2, v1, v2, 0, [], 0⟩, true), tf) := by have := HTS.out; rw [if_neg hsf] at this; exact this
      have xz := x9.store ⟨5, n2, v1, v2, 0, [], 0⟩
      have kz := ksets w9 xb ⟨5, n2, v1, v2, 0, [], 0⟩
      obtain ⟨wz, hwz⟩ : ∃ wz, (((((((w9.setCell ⟨xb, 0, none⟩ (.int .i64 5)).setCell ⟨xb, 1, none⟩ (.int .i64 n2)).setCell ⟨xb, 2, none⟩ (.int .i64 v1)).setCell ⟨xb, 3, none⟩ (.int .i64 v2)).setCell ⟨xb, 4, none⟩ (.int .u64 0)).setCell ⟨xb, 5, none⟩ (.string (bs []))).setCell ⟨xb, 6, none⟩ (.int .i64 0)) = wz := ⟨_, rfl⟩
      have hwz' : stored w9 xb ⟨5, n2, v1, v2, 0, [], 0⟩ = wz := hwz
      rw [hwz'] at xz kz
      have tz := (t9').keep kz hbx
      have Kz : Keeps (fun x => x = b) w wz := K9.trans' kz (fun x e hl => by have := HXB.out; omega)
      obtain ⟨y0, y1, y2, y3, y4, y5, y6⟩ := xz.all
      have HF := Hid.of (And.intro tz Kz)
      have HY := Hid.of (And.intro y0 (And.intro y1 (And.intro y2 (And.intro y3 (And.intro y4 (And.intro y5 y6))))))
      subst hts
      clear HTS xz kz tz Kz hwz' y0 y1 y2 y3 y4 y5 y6 hsf hsf'
      go_wp2
      obtain ⟨y0, y1, y2, y3, y4, y5, y6⟩ := HY.out
      try simp only [Exit.jump, Exit.inBlock, Exit.then]
      refine bodyPost_ret (v := .tuple #[Stp.val ⟨5, n2, v1, v2, 0, [], 0⟩, .bool true]) ?_ ?_ ?_
      · simp [results, Try.results63, go_sem, y0, y1, y2, y3, y4, y5, y6, Stp.val]
      · rfl
      · exact ⟨rfl, HF.out⟩
set_option maxRecDepth 100000 in
set_option maxHeartbeats 2000000 in
theorem step_n (w : World) (b : Nat) (t : Tp) (k : Int) (hks : k = 4) (ht : TAt w b t) (h : t.rest ≠ []) (hl : t.rest.length ≤ 1000000) (hk : (tone t).1 % 16 = k) :
    Calls Try.prog 63 #[.pointer (some ⟨b, 0, none⟩)] w fun e w' => e = .returned (.tuple #[(tstep t).1.1.val, .bool (tstep t).1.2]) ∧ TAt w' b (tstep t).2 ∧ Keeps (fun x => x = b) w w' := by
  have HT := tstep_of t k h hk
  have l1 := tone_rest t
  have l2 := tone_rest (tone t).2
  obtain ⟨b1, b2⟩ := tone_bd t
  have q1 := fun (w : World) (ht : TAt w b t) => one_any w b t ht hl
  have q2 := fun (w : World) (ht : TAt w b (tone t).2) => one_any w b _ ht (by omega)
  rcases hks with rfl
  · have c0 := cell_of (v := .string (bs t.rest)) ht 0 rfl
    have hie : List.isEmpty t.rest = false := by cases hr : t.rest with
      | nil => exact absurd hr h
      | cons a l => rfl
    generalize tstep t = ts at *
    generalize hn1 : (tone t).1 = n1 at *
    generalize ht1 : (tone t).2 = t1 at *
    generalize hn2 : (tone t1).1 = n2 at *
    generalize ht2 : (tone t1).2 = t2 at *
    clear hn1 ht1 hn2 ht2
    have e1 : tail1 4 t2 = ((0, 0), t2) := rfl
    rw [e1] at HT
    simp only [] at HT
    have l4 := tnum_rest t2
    have q4 := fun (w : World) (ht : TAt w b t2) => num_any w b t2 ht (by omega)
    have e2 : tail2 4 t2 = (((tnum t2).1, 0, []), (tnum t2).2) := rfl
    rw [e2] at HT
    simp only [] at HT
    generalize (tnum t2).1 = v1 at *
    generalize (tnum t2).2 = tf at *
    have HTS := Hid.of HT
    clear HT h l1 l2 e1 e2
    have hxb : b < w.heap.size := lt_of ht
    obtain ⟨w1, hw1⟩ : ∃ w1, w.alloc (.cells #[.int .i64 0, .int .i64 0, .int .i64 0, .int .i64 0, .int .u64 0, .string ⟨#[]⟩, .int .i64 0] 108) = w1 := ⟨_, rfl⟩
    have x1 : XAt w1 w.heap.size zero := by rw [← hw1]; exact alloc_new _ _
    have K1 : Keeps (fun x => x = b) w w1 := by rw [← hw1]; exact (Keeps.refl _ _).alloc _
    have t1' : TAt w1 b t := by rw [← hw1]; exact alloc_old ht _
    have c01 := cell_of (v := .string (bs t.rest)) t1' 0 rfl
    go_enter Try.func63, Try.ntmps63
    go_wp2
    refine wp_scope_fwd 0 rfl ?_
    obtain ⟨xb, hxe⟩ : ∃ xb, w.heap.size = xb := ⟨_, rfl⟩
    rw [hxe] at x1 hxb
    have HXB := Hid.of hxe
    have hbx : b ≠ xb := by omega
    have hxk : ¬ xb = b := by omega
    clear hw1 c0 ht
    go_wp2_with fail
    refine (q1 w1 t1').mono ?_
    rintro e w2 ⟨rfl, t2', k2⟩
    have x2 := (x1.keep k2 hxk).set_kind 4
    have k3 := kset w2 xb 0 (.int .i64 4)
    obtain ⟨w3, hw3⟩ : ∃ w3, w2.setCell ⟨xb, 0, none⟩ (.int .i64 4) = w3 := ⟨_, rfl⟩
    have ff := (x1.keep k2 hxk).free
    obtain ⟨f0, f1, f2, f3, f4, f5, f6⟩ := ff
    have aa := (x1.keep k2 hxk).all
    obtain ⟨a0, a1, a2, a3, a4, a5, a6⟩ := aa
    rw [hw3] at x2 k3
    have t3' := t2'.keep k3 hbx
    have K3 := Keeps.two K1 k2 k3 (by omega) HXB.out
    clear q1 x1 k2 k3 t1' t2' c01 K1
    go_wp2_with fail
    refine (q2 w3 t3').mono ?_
    rintro e w4 ⟨rfl, t4', k4⟩
    clear f0 f1 f2 f3 f4 f5 f6 a0 a1 a2 a3 a4 a5 a6 hw3
    have x4 := (x2.keep k4 hxk).set_tenant n2
    obtain ⟨f0, f1, f2, f3, f4, f5, f6⟩ := (x2.keep k4 hxk).free
    obtain ⟨a0, a1, a2, a3, a4, a5, a6⟩ := (x2.keep k4 hxk).all
    have k5 := kset w4 xb 1 (.int .i64 n2)
    obtain ⟨w5, hw5⟩ : ∃ w5, w4.setCell ⟨xb, 1, none⟩ (.int .i64 n2) = w5 := ⟨_, rfl⟩
    rw [hw5] at x4 k5
    have t5' := t4'.keep k5 hbx
    have K5 := Keeps.two K3 k4 k5 (by omega) HXB.out
    have z0 := cell_of (v := .int .i64 4) x4 0 rfl
    clear q2 x2 k4 k5 t3' t4' K3
    go_wp2_with fail
    refine (q4 w5 t5').mono ?_
    rintro e w8 ⟨rfl, t8', k8⟩
    clear f0 f1 f2 f3 f4 f5 f6 a0 a1 a2 a3 a4 a5 a6 hw5 z0
    have x8 := x4.keep k8 hxk
    obtain ⟨f0, f1, f2, f3, f4, f5, f6⟩ := x8.free
    obtain ⟨a0, a1, a2, a3, a4, a5, a6⟩ := x8.all
    have x9 := x8.set_n v1
    have k9 := kset w8 xb 2 (.int .i64 v1)
    obtain ⟨w9, hw9⟩ : ∃ w9, w8.setCell ⟨xb, 2, none⟩ (.int .i64 v1) = w9 := ⟨_, rfl⟩
    rw [hw9] at x9 k9
    have t9' := t8'.keep k9 hbx
    have K9 := Keeps.two K5 k8 k9 (by omega) HXB.out
    simp only [] at x9
    clear q4 x4 k8 k9 x8 t8'
    simp only [zero] at x9
    obtain ⟨g0, g1, g2, g3, g4, g5, g6⟩ := x9.free
    obtain ⟨h0, h1, h2, h3, h4, h5, h6⟩ := x9.all
    have sh := cell_of (v := .bool tf.short) t9' 1 rfl
    by_cases hsf : tf.short = true
    · rw [hsf] at sh
      have hts : ts = ((zero, false), tf) := by have := HTS.out; rw [if_pos hsf] at this; exact this
      have xz := x9.store zero
      have kz := ksets w9 xb zero
      obtain ⟨wz, hwz⟩ : ∃ wz, (((((((w9.setCell ⟨xb, 0, none⟩ (.int .i64 0)).setCell ⟨xb, 1, none⟩ (.int .i64 0)).setCell ⟨xb, 2, none⟩ (.int .i64 0)).setCell ⟨xb, 3, none⟩ (.int .i64 0)).setCell ⟨xb, 4, none⟩ (.int .u64 0)).setCell ⟨xb, 5, none⟩ (.string ⟨#[]⟩)).setCell ⟨xb, 6, none⟩ (.int .i64 0)) = wz := ⟨_, rfl⟩
      have hwz' : stored w9 xb zero = wz := hwz
      rw [hwz'] at xz kz
      have tz := (t9').keep kz hbx
      have Kz : Keeps (fun x => x = b) w wz := K9.trans' kz (fun x e hl => by have := HXB.out; omega)
      obtain ⟨y0, y1, y2, y3, y4, y5, y6⟩ := xz.all
      have HF := Hid.of (And.intro tz Kz)
      have HY := Hid.of (And.intro y0 (And.intro y1 (And.intro y2 (And.intro y3 (And.intro y4 (And.intro y5 y6))))))
      subst hts
      clear HTS xz kz tz Kz hwz' y0 y1 y2 y3 y4 y5 y6 hsf
      go_wp2
      go_step3
      go_wp2
      obtain ⟨y0, y1, y2, y3, y4, y5, y6⟩ := HY.out
      try simp only [Exit.jump, Exit.inBlock, Exit.then]
      refine bodyPost_ret (v := .tuple #[Stp.val zero, .bool false]) ?_ ?_ ?_
      · simp [results, Try.results63, go_sem, y0, y1, y2, y3, y4, y5, y6, Stp.val]
      · rfl
      · exact ⟨rfl, HF.out⟩
    · have hsf' : tf.short = false := by simpa using hsf
      rw [hsf'] at sh
      have hts : ts = ((⟨4, n2, v1, 0, 0, [], 0⟩, true), tf) := by have := HTS.out; rw [if_neg hsf] at this; exact this
      have xz := x9.store ⟨4, n2, v1, 0, 0, [], 0⟩
      have kz := ksets w9 xb ⟨4, n2, v1, 0, 0, [], 0⟩
      obtain ⟨wz, hwz⟩ : ∃ wz, (((((((w9.setCell ⟨xb, 0, none⟩ (.int .i64 4)).setCell ⟨xb, 1, none⟩ (.int .i64 n2)).setCell ⟨xb, 2, none⟩ (.int .i64 v1)).setCell ⟨xb, 3, none⟩ (.int .i64 0)).setCell ⟨xb, 4, none⟩ (.int .u64 0)).setCell ⟨xb, 5, none⟩ (.string (bs []))).setCell ⟨xb, 6, none⟩ (.int .i64 0)) = wz := ⟨_, rfl⟩
      have hwz' : stored w9 xb ⟨4, n2, v1, 0, 0, [], 0⟩ = wz := hwz
      rw [hwz'] at xz kz
      have tz := (t9').keep kz hbx
      have Kz : Keeps (fun x => x = b) w wz := K9.trans' kz (fun x e hl => by have := HXB.out; omega)
      obtain ⟨y0, y1, y2, y3, y4, y5, y6⟩ := xz.all
      have HF := Hid.of (And.intro tz Kz)
      have HY := Hid.of (And.intro y0 (And.intro y1 (And.intro y2 (And.intro y3 (And.intro y4 (And.intro y5 y6))))))
      subst hts
      clear HTS xz kz tz Kz hwz' y0 y1 y2 y3 y4 y5 y6 hsf hsf'
      go_wp2
      obtain ⟨y0, y1, y2, y3, y4, y5, y6⟩ := HY.out
      try simp only [Exit.jump, Exit.inBlock, Exit.then]
      refine bodyPost_ret (v := .tuple #[Stp.val ⟨4, n2, v1, 0, 0, [], 0⟩, .bool true]) ?_ ?_ ?_
      · simp [results, Try.results63, go_sem, y0, y1, y2, y3, y4, y5, y6, Stp.val]
      · rfl
      · exact ⟨rfl, HF.out⟩
set_option maxRecDepth 100000 in
set_option maxHeartbeats 2000000 in
theorem step_h (w : World) (b : Nat) (t : Tp) (k : Int) (hks : k = 6 ∨ k = 8) (ht : TAt w b t) (h : t.rest ≠ []) (hl : t.rest.length ≤ 1000000) (hk : (tone t).1 % 16 = k) :
    Calls Try.prog 63 #[.pointer (some ⟨b, 0, none⟩)] w fun e w' => e = .returned (.tuple #[(tstep t).1.1.val, .bool (tstep t).1.2]) ∧ TAt w' b (tstep t).2 ∧ Keeps (fun x => x = b) w w' := by
  have HT := tstep_of t k h hk
  have l1 := tone_rest t
  have l2 := tone_rest (tone t).2
  obtain ⟨b1, b2⟩ := tone_bd t
  have q1 := fun (w : World) (ht : TAt w b t) => one_any w b t ht hl
  have q2 := fun (w : World) (ht : TAt w b (tone t).2) => one_any w b _ ht (by omega)
  rcases hks with rfl | rfl
  · have c0 := cell_of (v := .string (bs t.rest)) ht 0 rfl
    have hie : List.isEmpty t.rest = false := by cases hr : t.rest with
      | nil => exact absurd hr h
      | cons a l => rfl
    generalize tstep t = ts at *
    generalize hn1 : (tone t).1 = n1 at *
    generalize ht1 : (tone t).2 = t1 at *
    generalize hn2 : (tone t1).1 = n2 at *
    generalize ht2 : (tone t1).2 = t2 at *
    clear hn1 ht1 hn2 ht2
    have l3 := thand_rest t2
    have q3 := fun (w : World) (xb : Nat) (s : Stp) (ht : TAt w b t2) (hx : XAt w xb s) (hne : b ≠ xb) (h0 : s.handle = 0) => handle_any w b xb t2 s ht hx hne h0 (by omega)
    have e1 : tail1 6 t2 = thand t2 := rfl
    rw [e1] at HT
    generalize (thand t2).1.1 = bk at *
    generalize (thand t2).1.2 = hd at *
    generalize (thand t2).2 = t3 at *
    have e2 : tail2 6 t3 = ((0, 0, []), t3) := rfl
    rw [e2] at HT
    simp only [] at HT
    obtain ⟨tf, htf⟩ : ∃ tf, t3 = tf := ⟨_, rfl⟩
    rw [htf] at HT
    have HTS := Hid.of HT
    clear HT h l1 l2 e1 e2
    have hxb : b < w.heap.size := lt_of ht
    obtain ⟨w1, hw1⟩ : ∃ w1, w.alloc (.cells #[.int .i64 0, .int .i64 0, .int .i64 0, .int .i64 0, .int .u64 0, .string ⟨#[]⟩, .int .i64 0] 108) = w1 := ⟨_, rfl⟩
    have x1 : XAt w1 w.heap.size zero := by rw [← hw1]; exact alloc_new _ _
    have K1 : Keeps (fun x => x = b) w w1 := by rw [← hw1]; exact (Keeps.refl _ _).alloc _
    have t1' : TAt w1 b t := by rw [← hw1]; exact alloc_old ht _
    have c01 := cell_of (v := .string (bs t.rest)) t1' 0 rfl
    go_enter Try.func63, Try.ntmps63
    go_wp2
    refine wp_scope_fwd 0 rfl ?_
    obtain ⟨xb, hxe⟩ : ∃ xb, w.heap.size = xb := ⟨_, rfl⟩
    rw [hxe] at x1 hxb
    have HXB := Hid.of hxe
    have hbx : b ≠ xb := by omega
    have hxk : ¬ xb = b := by omega
    clear hw1 c0 ht
    go_wp2_with fail
    refine (q1 w1 t1').mono ?_
    rintro e w2 ⟨rfl, t2', k2⟩
    have x2 := (x1.keep k2 hxk).set_kind 6
    have k3 := kset w2 xb 0 (.int .i64 6)
    obtain ⟨w3, hw3⟩ : ∃ w3, w2.setCell ⟨xb, 0, none⟩ (.int .i64 6) = w3 := ⟨_, rfl⟩
    have ff := (x1.keep k2 hxk).free
    obtain ⟨f0, f1, f2, f3, f4, f5, f6⟩ := ff
    have aa := (x1.keep k2 hxk).all
    obtain ⟨a0, a1, a2, a3, a4, a5, a6⟩ := aa
    rw [hw3] at x2 k3
    have t3' := t2'.keep k3 hbx
    have K3 := Keeps.two K1 k2 k3 (by omega) HXB.out
    clear q1 x1 k2 k3 t1' t2' c01 K1
    go_wp2_with fail
    refine (q2 w3 t3').mono ?_
    rintro e w4 ⟨rfl, t4', k4⟩
    clear f0 f1 f2 f3 f4 f5 f6 a0 a1 a2 a3 a4 a5 a6 hw3
    have x4 := (x2.keep k4 hxk).set_tenant n2
    obtain ⟨f0, f1, f2, f3, f4, f5, f6⟩ := (x2.keep k4 hxk).free
    obtain ⟨a0, a1, a2, a3, a4, a5, a6⟩ := (x2.keep k4 hxk).all
    have k5 := kset w4 xb 1 (.int .i64 n2)
    obtain ⟨w5, hw5⟩ : ∃ w5, w4.setCell ⟨xb, 1, none⟩ (.int .i64 n2) = w5 := ⟨_, rfl⟩
    rw [hw5] at x4 k5
    have t5' := t4'.keep k5 hbx
    have K5 := Keeps.two K3 k4 k5 (by omega) HXB.out
    have z0 := cell_of (v := .int .i64 6) x4 0 rfl
    clear q2 x2 k4 k5 t3' t4' K3
    go_wp2_with fail
    refine (q3 w5 xb _ t5' x4 hbx rfl).mono ?_
    rintro e w6 ⟨rfl, t6', x6, k6⟩
    clear f0 f1 f2 f3 f4 f5 f6 a0 a1 a2 a3 a4 a5 a6 hw5 z0
    have K6 := K5.trans' k6 (fun x hx hl => by have := HXB.out; omega)
    simp only [] at x6
    have z0 := cell_of (v := .int .i64 6) x6 0 rfl
    clear q3 x4 k6 t5' K5
    rw [htf] at t6'
    simp only [zero] at x6
    obtain ⟨g0, g1, g2, g3, g4, g5, g6⟩ := x6.free
    obtain ⟨h0, h1, h2, h3, h4, h5, h6⟩ := x6.all
    have sh := cell_of (v := .bool tf.short) t6' 1 rfl
    by_cases hsf : tf.short = true
    · rw [hsf] at sh
      have hts : ts = ((zero, false), tf) := by have := HTS.out; rw [if_pos hsf] at this; exact this
      have xz := x6.store zero
      have kz := ksets w6 xb zero
      obtain ⟨wz, hwz⟩ : ∃ wz, (((((((w6.setCell ⟨xb, 0, none⟩ (.int .i64 0)).setCell ⟨xb, 1, none⟩ (.int .i64 0)).setCell ⟨xb, 2, none⟩ (.int .i64 0)).setCell ⟨xb, 3, none⟩ (.int .i64 0)).setCell ⟨xb, 4, none⟩ (.int .u64 0)).setCell ⟨xb, 5, none⟩ (.string ⟨#[]⟩)).setCell ⟨xb, 6, none⟩ (.int .i64 0)) = wz := ⟨_, rfl⟩
      have hwz' : stored w6 xb zero = wz := hwz
      rw [hwz'] at xz kz
      have tz := (t6').keep kz hbx
      have Kz : Keeps (fun x => x = b) w wz := K6.trans' kz (fun x e hl => by have := HXB.out; omega)
      obtain ⟨y0, y1, y2, y3, y4, y5, y6⟩ := xz.all
      have HF := Hid.of (And.intro tz Kz)
      have HY := Hid.of (And.intro y0 (And.intro y1 (And.intro y2 (And.intro y3 (And.intro y4 (And.intro y5 y6))))))
      subst hts
      clear HTS xz kz tz Kz hwz' y0 y1 y2 y3 y4 y5 y6 hsf
      go_wp2
      go_step3
      go_wp2
      obtain ⟨y0, y1, y2, y3, y4, y5, y6⟩ := HY.out
      try simp only [Exit.jump, Exit.inBlock, Exit.then]
      refine bodyPost_ret (v := .tuple #[Stp.val zero, .bool false]) ?_ ?_ ?_
      · simp [results, Try.results63, go_sem, y0, y1, y2, y3, y4, y5, y6, Stp.val]
      · rfl
      · exact ⟨rfl, HF.out⟩
    · have hsf' : tf.short = false := by simpa using hsf
      rw [hsf'] at sh
      have hts : ts = ((⟨6, n2, 0, 0, hd, [], bk⟩, true), tf) := by have := HTS.out; rw [if_neg hsf] at this; exact this
      have xz := x6.store ⟨6, n2, 0, 0, hd, [], bk⟩
      have kz := ksets w6 xb ⟨6, n2, 0, 0, hd, [], bk⟩
      obtain ⟨wz, hwz⟩ : ∃ wz, (((((((w6.setCell ⟨xb, 0, none⟩ (.int .i64 6)).setCell ⟨xb, 1, none⟩ (.int .i64 n2)).setCell ⟨xb, 2, none⟩ (.int .i64 0)).setCell ⟨xb, 3, none⟩ (.int .i64 0)).setCell ⟨xb, 4, none⟩ (.int .u64 hd)).setCell ⟨xb, 5, none⟩ (.string (bs []))).setCell ⟨xb, 6, none⟩ (.int .i64 bk)) = wz := ⟨_, rfl⟩
      have hwz' : stored w6 xb ⟨6, n2, 0, 0, hd, [], bk⟩ = wz := hwz
      rw [hwz'] at xz kz
      have tz := (t6').keep kz hbx
      have Kz : Keeps (fun x => x = b) w wz := K6.trans' kz (fun x e hl => by have := HXB.out; omega)
      obtain ⟨y0, y1, y2, y3, y4, y5, y6⟩ := xz.all
      have HF := Hid.of (And.intro tz Kz)
      have HY := Hid.of (And.intro y0 (And.intro y1 (And.intro y2 (And.intro y3 (And.intro y4 (And.intro y5 y6))))))
      subst hts
      clear HTS xz kz tz Kz hwz' y0 y1 y2 y3 y4 y5 y6 hsf hsf'
      go_wp2
      obtain ⟨y0, y1, y2, y3, y4, y5, y6⟩ := HY.out
      try simp only [Exit.jump, Exit.inBlock, Exit.then]
      refine bodyPost_ret (v := .tuple #[Stp.val ⟨6, n2, 0, 0, hd, [], bk⟩, .bool true]) ?_ ?_ ?_
      · simp [results, Try.results63, go_sem, y0, y1, y2, y3, y4, y5, y6, Stp.val]
      · rfl
      · exact ⟨rfl, HF.out⟩
  · have c0 := cell_of (v := .string (bs t.rest)) ht 0 rfl
    have hie : List.isEmpty t.rest = false := by cases hr : t.rest with
      | nil => exact absurd hr h
      | cons a l => rfl
    generalize tstep t = ts at *
    generalize hn1 : (tone t).1 = n1 at *
    generalize ht1 : (tone t).2 = t1 at *
    generalize hn2 : (tone t1).1 = n2 at *
    generalize ht2 : (tone t1).2 = t2 at *
    clear hn1 ht1 hn2 ht2
    have l3 := thand_rest t2
    have q3 := fun (w : World) (xb : Nat) (s : Stp) (ht : TAt w b t2) (hx : XAt w xb s) (hne : b ≠ xb) (h0 : s.handle = 0) => handle_any w b xb t2 s ht hx hne h0 (by omega)
    have e1 : tail1 8 t2 = thand t2 := rfl
    rw [e1] at HT
    generalize (thand t2).1.1 = bk at *
    generalize (thand t2).1.2 = hd at *
    generalize (thand t2).2 = t3 at *
    have e2 : tail2 8 t3 = ((0, 0, []), t3) := rfl
    rw [e2] at HT
    simp only [] at HT
    obtain ⟨tf, htf⟩ : ∃ tf, t3 = tf := ⟨_, rfl⟩
    rw [htf] at HT
    have HTS := Hid.of HT
    clear HT h l1 l2 e1 e2
    have hxb : b < w.heap.size := lt_of ht
    obtain ⟨w1, hw1⟩ : ∃ w1, w.alloc (.cells #[.int .i64 0, .int .i64 0, .int .i64 0, .int .i64 0, .int .u64 0, .string ⟨#[]⟩, .int .i64 0] 108) = w1 := ⟨_, rfl⟩
    have x1 : XAt w1 w.heap.size zero := by rw [← hw1]; exact alloc_new _ _
    have K1 : Keeps (fun x => x = b) w w1 := by rw [← hw1]; exact (Keeps.refl _ _).alloc _
    have t1' : TAt w1 b t := by rw [← hw1]; exact alloc_old ht _
    have c01 := cell_of (v := .string (bs t.rest)) t1' 0 rfl
    go_enter Try.func63, Try.ntmps63
    go_wp2
    refine wp_scope_fwd 0 rfl ?_
    obtain ⟨xb, hxe⟩ : ∃ xb, w.heap.size = xb := ⟨_, rfl⟩
    rw [hxe] at x1 hxb
    have HXB := Hid.of hxe
    have hbx : b ≠ xb := by omega
    have hxk : ¬ xb = b := by omega
    clear hw1 c0 ht
    go_wp2_with fail
    refine (q1 w1 t1').mono ?_
    rintro e w2 ⟨rfl, t2', k2⟩
    have x2 := (x1.keep k2 hxk).set_kind 8
    have k3 := kset w2 xb 0 (.int .i64 8)
    obtain ⟨w3, hw3⟩ : ∃ w3, w2.setCell ⟨xb, 0, none⟩ (.int .i64 8) = w3 := ⟨_, rfl⟩
    have ff := (x1.keep k2 hxk).free
    obtain ⟨f0, f1, f2, f3, f4, f5, f6⟩ := ff
    have aa := (x1.keep k2 hxk).all
    obtain ⟨a0, a1, a2, a3, a4, a5, a6⟩ := aa
    rw [hw3] at x2 k3
    have t3' := t2'.keep k3 hbx
    have K3 := Keeps.two K1 k2 k3 (by omega) HXB.out
    clear q1 x1 k2 k3 t1' t2' c01 K1
    go_wp2_with fail
    refine (q2 w3 t3').mono ?_
    rintro e w4 ⟨rfl, t4', k4⟩
    clear f0 f1 f2 f3 f4 f5 f6 a0 a1 a2 a3 a4 a5 a6 hw3
    have x4 := (x2.keep k4 hxk).set_tenant n2
    obtain ⟨f0, f1, f2, f3, f4, f5, f6⟩ := (x2.keep k4 hxk).free
    obtain ⟨a0, a1, a2, a3, a4, a5, a6⟩ := (x2.keep k4 hxk).all
    have k5 := kset w4 xb 1 (.int .i64 n2)
    obtain ⟨w5, hw5⟩ : ∃ w5, w4.setCell ⟨xb, 1, none⟩ (.int .i64 n2) = w5 := ⟨_, rfl⟩
    rw [hw5] at x4 k5
    have t5' := t4'.keep k5 hbx
    have K5 := Keeps.two K3 k4 k5 (by omega) HXB.out
    have z0 := cell_of (v := .int .i64 8) x4 0 rfl
    clear q2 x2 k4 k5 t3' t4' K3
    go_wp2_with fail
    refine (q3 w5 xb _ t5' x4 hbx rfl).mono ?_
    rintro e w6 ⟨rfl, t6', x6, k6⟩
    clear f0 f1 f2 f3 f4 f5 f6 a0 a1 a2 a3 a4 a5 a6 hw5 z0
    have K6 := K5.trans' k6 (fun x hx hl => by have := HXB.out; omega)
    simp only [] at x6
    have z0 := cell_of (v := .int .i64 8) x6 0 rfl
    clear q3 x4 k6 t5' K5
    rw [htf] at t6'
    simp only [zero] at x6
    obtain ⟨g0, g1, g2, g3, g4, g5, g6⟩ := x6.free
    obtain ⟨h0, h1, h2, h3, h4, h5, h6⟩ := x6.all
    have sh := cell_of (v := .bool tf.short) t6' 1 rfl
    by_cases hsf : tf.short = true
    · rw [hsf] at sh
      have hts : ts = ((zero, false), tf) := by have := HTS.out; rw [if_pos hsf] at this; exact this
      have xz := x6.store zero
      have kz := ksets w6 xb zero
      obtain ⟨wz, hwz⟩ : ∃ wz, (((((((w6.setCell ⟨xb, 0, none⟩ (.int .i64 0)).setCell ⟨xb, 1, none⟩ (.int .i64 0)).setCell ⟨xb, 2, none⟩ (.int .i64 0)).setCell ⟨xb, 3, none⟩ (.int .i64 0)).setCell ⟨xb, 4, none⟩ (.int .u64 0)).setCell ⟨xb, 5, none⟩ (.string ⟨#[]⟩)).setCell ⟨xb, 6, none⟩ (.int .i64 0)) = wz := ⟨_, rfl⟩
      have hwz' : stored w6 xb zero = wz := hwz
      rw [hwz'] at xz kz
      have tz := (t6').keep kz hbx
      have Kz : Keeps (fun x => x = b) w wz := K6.trans' kz (fun x e hl => by have := HXB.out; omega)
      obtain ⟨y0, y1, y2, y3, y4, y5, y6⟩ := xz.all
      have HF := Hid.of (And.intro tz Kz)
      have HY := Hid.of (And.intro y0 (And.intro y1 (And.intro y2 (And.intro y3 (And.intro y4 (And.intro y5 y6))))))
      subst hts
      clear HTS xz kz tz Kz hwz' y0 y1 y2 y3 y4 y5 y6 hsf
      go_wp2
      go_step3
      go_wp2
      obtain ⟨y0, y1, y2, y3, y4, y5, y6⟩ := HY.out
      try simp only [Exit.jump, Exit.inBlock, Exit.then]
      refine bodyPost_ret (v := .tuple #[Stp.val zero, .bool false]) ?_ ?_ ?_
      · simp [results, Try.results63, go_sem, y0, y1, y2, y3, y4, y5, y6, Stp.val]
      · rfl
      · exact ⟨rfl, HF.out⟩
    · have hsf' : tf.short = false := by simpa using hsf
      rw [hsf'] at sh
      have hts : ts = ((⟨8, n2, 0, 0, hd, [], bk⟩, true), tf) := by have := HTS.out; rw [if_neg hsf] at this; exact this
      have xz := x6.store ⟨8, n2, 0, 0, hd, [], bk⟩
      have kz := ksets w6 xb ⟨8, n2, 0, 0, hd, [], bk⟩
      obtain ⟨wz, hwz⟩ : ∃ wz, (((((((w6.setCell ⟨xb, 0, none⟩ (.int .i64 8)).setCell ⟨xb, 1, none⟩ (.int .i64 n2)).setCell ⟨xb, 2, none⟩ (.int .i64 0)).setCell ⟨xb, 3, none⟩ (.int .i64 0)).setCell ⟨xb, 4, none⟩ (.int .u64 hd)).setCell ⟨xb, 5, none⟩ (.string (bs []))).setCell ⟨xb, 6, none⟩ (.int .i64 bk)) = wz := ⟨_, rfl⟩
      have hwz' : stored w6 xb ⟨8, n2, 0, 0, hd, [], bk⟩ = wz := hwz
      rw [hwz'] at xz kz
      have tz := (t6').keep kz hbx
      have Kz : Keeps (fun x => x = b) w wz := K6.trans' kz (fun x e hl => by have := HXB.out; omega)
      obtain ⟨y0, y1, y2, y3, y4, y5, y6⟩ := xz.all
      have HF := Hid.of (And.intro tz Kz)
      have HY := Hid.of (And.intro y0 (And.intro y1 (And.intro y2 (And.intro y3 (And.intro y4 (And.intro y5 y6))))))
      subst hts
      clear HTS xz kz tz Kz hwz' y0 y1 y2 y3 y4 y5 y6 hsf hsf'
      go_wp2
      obtain ⟨y0, y1, y2, y3, y4, y5, y6⟩ := HY.out
      try simp only [Exit.jump, Exit.inBlock, Exit.then]
      refine bodyPost_ret (v := .tuple #[Stp.val ⟨8, n2, 0, 0, hd, [], bk⟩, .bool true]) ?_ ?_ ?_
      · simp [results, Try.results63, go_sem, y0, y1, y2, y3, y4, y5, y6, Stp.val]
      · rfl
      · exact ⟨rfl, HF.out⟩
set_option maxRecDepth 100000 in
set_option maxHeartbeats 2000000 in
theorem step_hn (w : World) (b : Nat) (t : Tp) (k : Int) (hks : k = 7 ∨ k = 11) (ht : TAt w b t) (h : t.rest ≠ []) (hl : t.rest.length ≤ 1000000) (hk : (tone t).1 % 16 = k) :
    Calls Try.prog 63 #[.pointer (some ⟨b, 0, none⟩)] w fun e w' => e = .returned (.tuple #[(tstep t).1.1.val, .bool (tstep t).1.2]) ∧ TAt w' b (tstep t).2 ∧ Keeps (fun x => x = b) w w' := by
  have HT := tstep_of t k h hk
  have l1 := tone_rest t
  have l2 := tone_rest (tone t).2
  obtain ⟨b1, b2⟩ := tone_bd t
  have q1 := fun (w : World) (ht : TAt w b t) => one_any w b t ht hl
  have q2 := fun (w : World) (ht : TAt w b (tone t).2) => one_any w b _ ht (by omega)
  rcases hks with rfl | rfl
  · have c0 := cell_of (v := .string (bs t.rest)) ht 0 rfl
    have hie : List.isEmpty t.rest = false := by cases hr : t.rest with
      | nil => exact absurd hr h
      | cons a l => rfl
    generalize tstep t = ts at *
    generalize hn1 : (tone t).1 = n1 at *
    generalize ht1 : (tone t).2 = t1 at *
    generalize hn2 : (tone t1).1 = n2 at *
    generalize ht2 : (tone t1).2 = t2 at *
    clear hn1 ht1 hn2 ht2
    have l3 := thand_rest t2
    have q3 := fun (w : World) (xb : Nat) (s : Stp) (ht : TAt w b t2) (hx : XAt w xb s) (hne : b ≠ xb) (h0 : s.handle = 0) => handle_any w b xb t2 s ht hx hne h0 (by omega)
    have e1 : tail1 7 t2 = thand t2 := rfl
    rw [e1] at HT
    generalize (thand t2).1.1 = bk at *
    generalize (thand t2).1.2 = hd at *
    generalize (thand t2).2 = t3 at *
    have l4 := tnum_rest t3
    have q4 := fun (w : World) (ht : TAt w b t3) => num_any w b t3 ht (by omega)
    have e2 : tail2 7 t3 = (((tnum t3).1, 0, []), (tnum t3).2) := rfl
    rw [e2] at HT
    simp only [] at HT
    generalize (tnum t3).1 = v1 at *
    generalize (tnum t3).2 = tf at *
    have HTS := Hid.of HT
    clear HT h l1 l2 e1 e2
    have hxb : b < w.heap.size := lt_of ht
    obtain ⟨w1, hw1⟩ : ∃ w1, w.alloc (.cells #[.int .i64 0, .int .i64 0, .int .i64 0, .int .i64 0, .int .u64 0, .string ⟨#[]⟩, .int .i64 0] 108) = w1 := ⟨_, rfl⟩
    have x1 : XAt w1 w.heap.size zero := by rw [← hw1]; exact alloc_new _ _
    have K1 : Keeps (fun x => x = b) w w1 := by rw [← hw1]; exact (Keeps.refl _ _).alloc _
    have t1' : TAt w1 b t := by rw [← hw1]; exact alloc_old ht _
    have c01 := cell_of (v := .string (bs t.rest)) t1' 0 rfl
    go_enter Try.func63, Try.ntmps63
    go_wp2
    refine wp_scope_fwd 0 rfl ?_
    obtain ⟨xb, hxe⟩ : ∃ xb, w.heap.size = xb := ⟨_, rfl⟩
    rw [hxe] at x1 hxb
    have HXB := Hid.of hxe
    have hbx : b ≠ xb := by omega
    have hxk : ¬ xb = b := by omega
    clear hw1 c0 ht
    go_wp2_with fail
    refine (q1 w1 t1').mono ?_
    rintro e w2 ⟨rfl, t2', k2⟩
    have x2 := (x1.keep k2 hxk).set_kind 7
    have k3 := kset w2 xb 0 (.int .i64 7)
    obtain ⟨w3, hw3⟩ : ∃ w3, w2.setCell ⟨xb, 0, none⟩ (.int .i64 7) = w3 := ⟨_, rfl⟩
    have ff := (x1.keep k2 hxk).free
    obtain ⟨f0, f1, f2, f3, f4, f5, f6⟩ := ff
    have aa := (x1.keep k2 hxk).all
    obtain ⟨a0, a1, a2, a3, a4, a5, a6⟩ := aa
    rw [hw3] at x2 k3
    have t3' := t2'.keep k3 hbx
    have K3 := Keeps.two K1 k2 k3 (by omega) HXB.out
    clear q1 x1 k2 k3 t1' t2' c01 K1
    go_wp2_with fail
    refine (q2 w3 t3').mono ?_
    rintro e w4 ⟨rfl, t4', k4⟩
    clear f0 f1 f2 f3 f4 f5 f6 a0 a1 a2 a3 a4 a5 a6 hw3
    have x4 := (x2.keep k4 hxk).set_tenant n2
    obtain ⟨f0, f1, f2, f3, f4, f5, f6⟩ := (x2.keep k4 hxk).free
    obtain ⟨a0, a1, a2, a3, a4, a5, a6⟩ := (x2.keep k4 hxk).all
    have k5 := kset w4 xb 1 (.int .i64 n2)
    obtain ⟨w5, hw5⟩ : ∃ w5, w4.setCell ⟨xb, 1, none⟩ (.int .i64 n2) = w5 := ⟨_, rfl⟩
    rw [hw5] at x4 k5
    have t5' := t4'.keep k5 hbx
    have K5 := Keeps.two K3 k4 k5 (by omega) HXB.out
    have z0 := cell_of (v := .int .i64 7) x4 0 rfl
    clear q2 x2 k4 k5 t3' t4' K3
    go_wp2_with fail
    refine (q3 w5 xb _ t5' x4 hbx rfl).mono ?_
    rintro e w6 ⟨rfl, t6', x6, k6⟩
    clear f0 f1 f2 f3 f4 f5 f6 a0 a1 a2 a3 a4 a5 a6 hw5 z0
    have K6 := K5.trans' k6 (fun x hx hl => by have := HXB.out; omega)
    simp only [] at x6
    have z0 := cell_of (v := .int .i64 7) x6 0 rfl
    clear q3 x4 k6 t5' K5
    go_wp2_with fail
    refine (q4 w6 t6').mono ?_
    rintro e w8 ⟨rfl, t8', k8⟩
    clear z0
    have x8 := x6.keep k8 hxk
    obtain ⟨f0, f1, f2, f3, f4, f5, f6⟩ := x8.free
    obtain ⟨a0, a1, a2, a3, a4, a5, a6⟩ := x8.all
    have x9 := x8.set_n v1
    have k9 := kset w8 xb 2 (.int .i64 v1)
    obtain ⟨w9, hw9⟩ : ∃ w9, w8.setCell ⟨xb, 2, none⟩ (.int .i64 v1) = w9 := ⟨_, rfl⟩
    rw [hw9] at x9 k9
    have t9' := t8'.keep k9 hbx
    have K9 := Keeps.two K6 k8 k9 (by omega) HXB.out
    simp only [] at x9
    clear q4 x6 k8 k9 x8 t8'
    simp only [zero] at x9
    obtain ⟨g0, g1, g2, g3, g4, g5, g6⟩ := x9.free
    obtain ⟨h0, h1, h2, h3, h4, h5, h6⟩ := x9.all
    have sh := cell_of (v := .bool tf.short) t9' 1 rfl
    by_cases hsf : tf.short = true
    · rw [hsf] at sh
      have hts : ts = ((zero, false), tf) := by have := HTS.out; rw [if_pos hsf] at this; exact this
      have xz := x9.store zero
      have kz := ksets w9 xb zero
      obtain ⟨wz, hwz⟩ : ∃ wz, (((((((w9.setCell ⟨xb, 0, none⟩ (.int .i64 0)).setCell ⟨xb, 1, none⟩ (.int .i64 0)).setCell ⟨xb, 2, none⟩ (.int .i64 0)).setCell ⟨xb, 3, none⟩ (.int .i64 0)).setCell ⟨xb, 4, none⟩ (.int .u64 0)).setCell ⟨xb, 5, none⟩ (.string ⟨#[]⟩)).setCell ⟨xb, 6, none⟩ (.int .i64 0)) = wz := ⟨_, rfl⟩
      have hwz' : stored w9 xb zero = wz := hwz
      rw [hwz'] at xz kz
      have tz := (t9').keep kz hbx
      have Kz : Keeps (fun x => x = b) w wz := K9.trans' kz (fun x e hl => by have := HXB.out; omega)
      obtain ⟨y0, y1, y2, y3, y4, y5, y6⟩ := xz.all
      have HF := Hid.of (And.intro tz Kz)
      have HY := Hid.of (And.intro y0 (And.intro y1 (And.intro y2 (And.intro y3 (And.intro y4 (And.intro y5 y6))))))
      subst hts
      clear HTS xz kz tz Kz hwz' y0 y1 y2 y3 y4 y5 y6 hsf
      go_wp2
      go_step3
      go_wp2
      obtain ⟨y0, y1, y2, y3, y4, y5, y6⟩ := HY.out
      try simp only [Exit.jump, Exit.inBlock, Exit.then]
      refine bodyPost_ret (v := .tuple #[Stp.val zero, .bool false]) ?_ ?_ ?_
      · simp [results, Try.results63, go_sem, y0, y1, y2, y3, y4, y5, y6, Stp.val]
      · rfl
      · exact ⟨rfl, HF.out⟩
    · have hsf' : tf.short = false := by simpa using hsf
      rw [hsf'] at sh
      have hts : ts = ((⟨7, n2, v1, 0, hd, [], bk⟩, true), tf) := by have := HTS.out; rw [if_neg hsf] at this; exact this
      have xz := x9.store ⟨7, n2, v1, 0, hd, [], bk⟩
      have kz := ksets w9 xb ⟨7, n2, v1, 0, hd, [], bk⟩
      obtain ⟨wz, hwz⟩ : ∃ wz, (((((((w9.setCell ⟨xb, 0, none⟩ (.int .i64 7)).setCell ⟨xb, 1, none⟩ (.int .i64 n2)).setCell ⟨xb, 2, none⟩ (.int .i64 v1)).setCell ⟨xb, 3, none⟩ (.int .i64 0)).setCell ⟨xb, 4, none⟩ (.int .u64 hd)).setCell ⟨xb, 5, none⟩ (.string (bs []))).setCell ⟨xb, 6, none⟩ (.int .i64 bk)) = wz := ⟨_, rfl⟩
      have hwz' : stored w9 xb ⟨7, n2, v1, 0, hd, [], bk⟩ = wz := hwz
      rw [hwz'] at xz kz
      have tz := (t9').keep kz hbx
      have Kz : Keeps (fun x => x = b) w wz := K9.trans' kz (fun x e hl => by have := HXB.out; omega)
      obtain ⟨y0, y1, y2, y3, y4, y5, y6⟩ := xz.all
      have HF := Hid.of (And.intro tz Kz)
      have HY := Hid.of (And.intro y0 (And.intro y1 (And.intro y2 (And.intro y3 (And.intro y4 (And.intro y5 y6))))))
      subst hts
      clear HTS xz kz tz Kz hwz' y0 y1 y2 y3 y4 y5 y6 hsf hsf'
      go_wp2
      obtain ⟨y0, y1, y2, y3, y4, y5, y6⟩ := HY.out
      try simp only [Exit.jump, Exit.inBlock, Exit.then]
      refine bodyPost_ret (v := .tuple #[Stp.val ⟨7, n2, v1, 0, hd, [], bk⟩, .bool true]) ?_ ?_ ?_
      · simp [results, Try.results63, go_sem, y0, y1, y2, y3, y4, y5, y6, Stp.val]
      · rfl
      · exact ⟨rfl, HF.out⟩
  · have c0 := cell_of (v := .string (bs t.rest)) ht 0 rfl
    have hie : List.isEmpty t.rest = false := by cases hr : t.rest with
      | nil => exact absurd hr h
      | cons a l => rfl
    generalize tstep t = ts at *
    generalize hn1 : (tone t).1 = n1 at *
    generalize ht1 : (tone t).2 = t1 at *
    generalize hn2 : (tone t1).1 = n2 at *
    generalize ht2 : (tone t1).2 = t2 at *
    clear hn1 ht1 hn2 ht2
    have l3 := thand_rest t2
    have q3 := fun (w : World) (xb : Nat) (s : Stp) (ht : TAt w b t2) (hx : XAt w xb s) (hne : b ≠ xb) (h0 : s.handle = 0) => handle_any w b xb t2 s ht hx hne h0 (by omega)
    have e1 : tail1 11 t2 = thand t2 := rfl
    rw [e1] at HT
    generalize (thand t2).1.1 = bk at *
    generalize (thand t2).1.2 = hd at *
    generalize (thand t2).2 = t3 at *
    have l4 := tnum_rest t3
    have q4 := fun (w : World) (ht : TAt w b t3) => num_any w b t3 ht (by omega)
    have e2 : tail2 11 t3 = (((tnum t3).1, 0, []), (tnum t3).2) := rfl
    rw [e2] at HT
    simp only [] at HT
    generalize (tnum t3).1 = v1 at *
    generalize (tnum t3).2 = tf at *
    have HTS := Hid.of HT
    clear HT h l1 l2 e1 e2
    have hxb : b < w.heap.size := lt_of ht
    obtain ⟨w1, hw1⟩ : ∃ w1, w.alloc (.cells #[.int .i64 0, .int .i64 0, .int .i64 0, .int .i64 0, .int .u64 0, .string ⟨#[]⟩, .int .i64 0] 108) = w1 := ⟨_, rfl⟩
    have x1 : XAt w1 w.heap.size zero := by rw [← hw1]; exact alloc_new _ _
    have K1 : Keeps (fun x => x = b) w w1 := by rw [← hw1]; exact (Keeps.refl _ _).alloc _
    have t1' : TAt w1 b t := by rw [← hw1]; exact alloc_old ht _
    have c01 := cell_of (v := .string (bs t.rest)) t1' 0 rfl
    go_enter Try.func63, Try.ntmps63
    go_wp2
    refine wp_scope_fwd 0 rfl ?_
    obtain ⟨xb, hxe⟩ : ∃ xb, w.heap.size = xb := ⟨_, rfl⟩
    rw [hxe] at x1 hxb
    have HXB := Hid.of hxe
    have hbx : b ≠ xb := by omega
    have hxk : ¬ xb = b := by omega
    clear hw1 c0 ht
    go_wp2_with fail
    refine (q1 w1 t1').mono ?_
    rintro e w2 ⟨rfl, t2', k2⟩
    have x2 := (x1.keep k2 hxk).set_kind 11
    have k3 := kset w2 xb 0 (.int .i64 11)
    obtain ⟨w3, hw3⟩ : ∃ w3, w2.setCell ⟨xb, 0, none⟩ (.int .i64 11) = w3 := ⟨_, rfl⟩
    have ff := (x1.keep k2 hxk).free
    obtain ⟨f0, f1, f2, f3, f4, f5, f6⟩ := ff
    have aa := (x1.keep k2 hxk).all
    obtain ⟨a0, a1, a2, a3, a4, a5, a6⟩ := aa
    rw [hw3] at x2 k3
    have t3' := t2'.keep k3 hbx
    have K3 := Keeps.two K1 k2 k3 (by omega) HXB.out
    clear q1 x1 k2 k3 t1' t2' c01 K1
    go_wp2_with fail
    refine (q2 w3 t3').mono ?_
    rintro e w4 ⟨rfl, t4', k4⟩
    clear f0 f1 f2 f3 f4 f5 f6 a0 a1 a2 a3 a4 a5 a6 hw3
    have x4 := (x2.keep k4 hxk).set_tenant n2
    obtain ⟨f0, f1, f2, f3, f4, f5, f6⟩ := (x2.keep k4 hxk).free
    obtain ⟨a0, a1, a2, a3, a4, a5, a6⟩ := (x2.keep k4 hxk).all
    have k5 := kset w4 xb 1 (.int .i64 n2)
    obtain ⟨w5, hw5⟩ : ∃ w5, w4.setCell ⟨xb, 1, none⟩ (.int .i64 n2) = w5 := ⟨_, rfl⟩
    rw [hw5] at x4 k5
    have t5' := t4'.keep k5 hbx
    have K5 := Keeps.two K3 k4 k5 (by omega) HXB.out
    have z0 := cell_of (v := .int .i64 11) x4 0 rfl
    clear q2 x2 k4 k5 t3' t4' K3
    go_wp2_with fail
    refine (q3 w5 xb _ t5' x4 hbx rfl).mono ?_
    rintro e w6 ⟨rfl, t6', x6, k6⟩
    clear f0 f1 f2 f3 f4 f5 f6 a0 a1 a2 a3 a4 a5 a6 hw5 z0
    have K6 := K5.trans' k6 (fun x hx hl => by have := HXB.out; omega)
    simp only [] at x6
    have z0 := cell_of (v := .int .i64 11) x6 0 rfl
    clear q3 x4 k6 t5' K5
    go_wp2_with fail
    refine (q4 w6 t6').mono ?_
    rintro e w8 ⟨rfl, t8', k8⟩
    clear z0
    have x8 := x6.keep k8 hxk
    obtain ⟨f0, f1, f2, f3, f4, f5, f6⟩ := x8.free
    obtain ⟨a0, a1, a2, a3, a4, a5, a6⟩ := x8.all
    have x9 := x8.set_n v1
    have k9 := kset w8 xb 2 (.int .i64 v1)
    obtain ⟨w9, hw9⟩ : ∃ w9, w8.setCell ⟨xb, 2, none⟩ (.int .i64 v1) = w9 := ⟨_, rfl⟩
    rw [hw9] at x9 k9
    have t9' := t8'.keep k9 hbx
    have K9 := Keeps.two K6 k8 k9 (by omega) HXB.out
    simp only [] at x9
    clear q4 x6 k8 k9 x8 t8'
    simp only [zero] at x9
    obtain ⟨g0, g1, g2, g3, g4, g5, g6⟩ := x9.free
    obtain ⟨h0, h1, h2, h3, h4, h5, h6⟩ := x9.all
    have sh := cell_of (v := .bool tf.short) t9' 1 rfl
    by_cases hsf : tf.short = true
    · rw [hsf] at sh
      have hts : ts = ((zero, false), tf) := by have := HTS.out; rw [if_pos hsf] at this; exact this
      have xz := x9.store zero
      have kz := ksets w9 xb zero
      obtain ⟨wz, hwz⟩ : ∃ wz, (((((((w9.setCell ⟨xb, 0, none⟩ (.int .i64 0)).setCell ⟨xb, 1, none⟩ (.int .i64 0)).setCell ⟨xb, 2, none⟩ (.int .i64 0)).setCell ⟨xb, 3, none⟩ (.int .i64 0)).setCell ⟨xb, 4, none⟩ (.int .u64 0)).setCell ⟨xb, 5, none⟩ (.string ⟨#[]⟩)).setCell ⟨xb, 6, none⟩ (.int .i64 0)) = wz := ⟨_, rfl⟩
      have hwz' : stored w9 xb zero = wz := hwz
      rw [hwz'] at xz kz
      have tz := (t9').keep kz hbx
      have Kz : Keeps (fun x => x = b) w wz := K9.trans' kz (fun x e hl => by have := HXB.out; omega)
      obtain ⟨y0, y1, y2, y3, y4, y5, y6⟩ := xz.all
      have HF := Hid.of (And.intro tz Kz)
      have HY := Hid.of (And.intro y0 (And.intro y1 (And.intro y2 (And.intro y3 (And.intro y4 (And.intro y5 y6))))))
      subst hts
      clear HTS xz kz tz Kz hwz' y0 y1 y2 y3 y4 y5 y6 hsf
      go_wp2
      go_step3
      go_wp2
      obtain ⟨y0, y1, y2, y3, y4, y5, y6⟩ := HY.out
      try simp only [Exit.jump, Exit.inBlock, Exit.then]
      refine bodyPost_ret (v := .tuple #[Stp.val zero, .bool false]) ?_ ?_ ?_
      · simp [results, Try.results63, go_sem, y0, y1, y2, y3, y4, y5, y6, Stp.val]
      · rfl
      · exact ⟨rfl, HF.out⟩
    · have hsf' : tf.short = false := by simpa using hsf
      rw [hsf'] at sh
      have hts : ts = ((⟨11, n2, v1, 0, hd, [], bk⟩, true), tf) := by have := HTS.out; rw [if_neg hsf] at this; exact this
      have xz := x9.store ⟨11, n2, v1, 0, hd, [], bk⟩
      have kz := ksets w9 xb ⟨11, n2, v1, 0, hd, [], bk⟩
      obtain ⟨wz, hwz⟩ : ∃ wz, (((((((w9.setCell ⟨xb, 0, none⟩ (.int .i64 11)).setCell ⟨xb, 1, none⟩ (.int .i64 n2)).setCell ⟨xb, 2, none⟩ (.int .i64 v1)).setCell ⟨xb, 3, none⟩ (.int .i64 0)).setCell ⟨xb, 4, none⟩ (.int .u64 hd)).setCell ⟨xb, 5, none⟩ (.string (bs []))).setCell ⟨xb, 6, none⟩ (.int .i64 bk)) = wz := ⟨_, rfl⟩
      have hwz' : stored w9 xb ⟨11, n2, v1, 0, hd, [], bk⟩ = wz := hwz
      rw [hwz'] at xz kz
      have tz := (t9').keep kz hbx
      have Kz : Keeps (fun x => x = b) w wz := K9.trans' kz (fun x e hl => by have := HXB.out; omega)
      obtain ⟨y0, y1, y2, y3, y4, y5, y6⟩ := xz.all
      have HF := Hid.of (And.intro tz Kz)
      have HY := Hid.of (And.intro y0 (And.intro y1 (And.intro y2 (And.intro y3 (And.intro y4 (And.intro y5 y6))))))
      subst hts
      clear HTS xz kz tz Kz hwz' y0 y1 y2 y3 y4 y5 y6 hsf hsf'
      go_wp2
      obtain ⟨y0, y1, y2, y3, y4, y5, y6⟩ := HY.out
      try simp only [Exit.jump, Exit.inBlock, Exit.then]
      refine bodyPost_ret (v := .tuple #[Stp.val ⟨11, n2, v1, 0, hd, [], bk⟩, .bool true]) ?_ ?_ ?_
      · simp [results, Try.results63, go_sem, y0, y1, y2, y3, y4, y5, y6, Stp.val]
      · rfl
      · exact ⟨rfl, HF.out⟩
set_option maxRecDepth 100000 in
set_option maxHeartbeats 2000000 in
theorem step_hnm (w : World) (b : Nat) (t : Tp) (k : Int) (hks : k = 9) (ht : TAt w b t) (h : t.rest ≠ []) (hl : t.rest.length ≤ 1000000) (hk : (tone t).1 % 16 = k) :
    Calls Try.prog 63 #[.pointer (some ⟨b, 0, none⟩)] w fun e w' => e = .returned (.tuple #[(tstep t).1.1.val, .bool (tstep t).1.2]) ∧ TAt w' b (tstep t).2 ∧ Keeps (fun x => x = b) w w' := by
  have HT := tstep_of t k h hk
  have l1 := tone_rest t
  have l2 := tone_rest (tone t).2
  obtain ⟨b1, b2⟩ := tone_bd t
  have q1 := fun (w : World) (ht : TAt w b t) => one_any w b t ht hl
  have q2 := fun (w : World) (ht : TAt w b (tone t).2) => one_any w b _ ht (by omega)
  rcases hks with rfl
  · have c0 := cell_of (v := .string (bs t.rest)) ht 0 rfl
    have hie : List.isEmpty t.rest = false := by cases hr : t.rest with
      | nil => exact absurd hr h
      | cons a l => rfl
    generalize tstep t = ts at *
    generalize hn1 : (tone t).1 = n1 at *
    generalize ht1 : (tone t).2 = t1 at *
    generalize hn2 : (tone t1).1 = n2 at *
    generalize ht2 : (tone t1).2 = t2 at *
    clear hn1 ht1 hn2 ht2
    have l3 := thand_rest t2
    have q3 := fun (w : World) (xb : Nat) (s : Stp) (ht : TAt w b t2) (hx : XAt w xb s) (hne : b ≠ xb) (h0 : s.handle = 0) => handle_any w b xb t2 s ht hx hne h0 (by omega)
    have e1 : tail1 9 t2 = thand t2 := rfl
    rw [e1] at HT
    generalize (thand t2).1.1 = bk at *
    generalize (thand t2).1.2 = hd at *
    generalize (thand t2).2 = t3 at *
    have l4 := tnum_rest t3
    have q4 := fun (w : World) (ht : TAt w b t3) => num_any w b t3 ht (by omega)
    have q5 := fun (w : World) (ht : TAt w b (tnum t3).2) => num_any w b (tnum t3).2 ht (by omega)
    have e2 : tail2 9 t3 = (((tnum t3).1, (tnum (tnum t3).2).1, []), (tnum (tnum t3).2).2) := rfl
    rw [e2] at HT
    simp only [] at HT
    generalize (tnum t3).1 = v1 at *
    generalize (tnum t3).2 = t4 at *
    generalize (tnum t4).1 = v2 at *
    generalize (tnum t4).2 = tf at *
    have HTS := Hid.of HT
    clear HT h l1 l2 e1 e2
    have hxb : b < w.heap.size := lt_of ht
    obtain ⟨w1, hw1⟩ : ∃ w1, w.alloc (.cells #[.int .i64 0, .int .i64 0, .int .i64 0, .int .i64 0, .int .u64 0, .string ⟨#[]⟩, .int .i64 0] 108) = w1 := ⟨_, rfl⟩
    have x1 : XAt w1 w.heap.size zero := by rw [← hw1]; exact alloc_new _ _
    have K1 : Keeps (fun x => x = b) w w1 := by rw [← hw1]; exact (Keeps.refl _ _).alloc _
    have t1' : TAt w1 b t := by rw [← hw1]; exact alloc_old ht _
    have c01 := cell_of (v := .string (bs t.rest)) t1' 0 rfl
    go_enter Try.func63, Try.ntmps63
    go_wp2
    refine wp_scope_fwd 0 rfl ?_
    obtain ⟨xb, hxe⟩ : ∃ xb, w.heap.size = xb := ⟨_, rfl⟩
    rw [hxe] at x1 hxb
    have HXB := Hid.of hxe
    have hbx : b ≠ xb := by omega
    have hxk : ¬ xb = b := by omega
    clear hw1 c0 ht
    go_wp2_with fail
    refine (q1 w1 t1').mono ?_
    rintro e w2 ⟨rfl, t2', k2⟩
    have x2 := (x1.keep k2 hxk).set_kind 9
    have k3 := kset w2 xb 0 (.int .i64 9)
    obtain ⟨w3, hw3⟩ : ∃ w3, w2.setCell ⟨xb, 0, none⟩ (.int .i64 9) = w3 := ⟨_, rfl⟩
    have ff := (x1.keep k2 hxk).free
    obtain ⟨f0, f1, f2, f3, f4, f5, f6⟩ := ff
    have aa := (x1.keep k2 hxk).all
    obtain ⟨a0, a1, a2, a3, a4, a5, a6⟩ := aa
    rw [hw3] at x2 k3
    have t3' := t2'.keep k3 hbx
    have K3 := Keeps.two K1 k2 k3 (by omega) HXB.out
    clear q1 x1 k2 k3 t1' t2' c01 K1
    go_wp2_with fail
    refine (q2 w3 t3').mono ?_
    rintro e w4 ⟨rfl, t4', k4⟩
    clear f0 f1 f2 f3 f4 f5 f6 a0 a1 a2 a3 a4 a5 a6 hw3
    have x4 := (x2.keep k4 hxk).set_tenant n2
    obtain ⟨f0, f1, f2, f3, f4, f5, f6⟩ := (x2.keep k4 hxk).free
    obtain ⟨a0, a1, a2, a3, a4, a5, a6⟩ := (x2.keep k4 hxk).all
    have k5 := kset w4 xb 1 (.int .i64 n2)
    obtain ⟨w5, hw5⟩ : ∃ w5, w4.setCell ⟨xb, 1, none⟩ (.int .i64 n2) = w5 := ⟨_, rfl⟩
    rw [hw5] at x4 k5
    have t5' := t4'.keep k5 hbx
    have K5 := Keeps.two K3 k4 k5 (by omega) HXB.out
    have z0 := cell_of (v := .int .i64 9) x4 0 rfl
    clear q2 x2 k4 k5 t3' t4' K3
    go_wp2_with fail
    refine (q3 w5 xb _ t5' x4 hbx rfl).mono ?_
    rintro e w6 ⟨rfl, t6', x6, k6⟩
    clear f0 f1 f2 f3 f4 f5 f6 a0 a1 a2 a3 a4 a5 a6 hw5 z0
    have K6 := K5.trans' k6 (fun x hx hl => by have := HXB.out; omega)
    simp only [] at x6
    have z0 := cell_of (v := .int .i64 9) x6 0 rfl
    clear q3 x4 k6 t5' K5
    go_wp2_with fail
    refine (q4 w6 t6').mono ?_
    rintro e w7 ⟨rfl, t7', k7⟩
    go_wp2_with fail
    refine (q5 w7 t7').mono ?_
    rintro e w8 ⟨rfl, t8', k8⟩
    clear z0
    have x8 := (x6.keep k7 hxk).keep k8 hxk
    obtain ⟨f0, f1, f2, f3, f4, f5, f6⟩ := x8.free
    obtain ⟨a0, a1, a2, a3, a4, a5, a6⟩ := x8.all
    have x9 := (x8.set_n v1).set_m v2
    have k9 := (kset w8 xb 2 (.int .i64 v1)).trans (kset _ xb 3 (.int .i64 v2))
    obtain ⟨w9, hw9⟩ : ∃ w9, (w8.setCell ⟨xb, 2, none⟩ (.int .i64 v1)).setCell ⟨xb, 3, none⟩ (.int .i64 v2) = w9 := ⟨_, rfl⟩
    rw [hw9] at x9 k9
    have t9' := t8'.keep k9 hbx
    have K9 := Keeps.two (K6.trans k7) k8 k9 (by omega) HXB.out
    simp only [] at x9
    clear q4 q5 x6 k7 k8 k9 x8 t7' t8'
    simp only [zero] at x9
    obtain ⟨g0, g1, g2, g3, g4, g5, g6⟩ := x9.free
    obtain ⟨h0, h1, h2, h3, h4, h5, h6⟩ := x9.all
    have sh := cell_of (v := .bool tf.short) t9' 1 rfl
    by_cases hsf : tf.short = true
    · rw [hsf] at sh
      have hts : ts = ((zero, false), tf) := by have := HTS.out; rw [if_pos hsf] at this; exact this
      have xz := x9.store zero
      have kz := ksets w9 xb zero
      obtain ⟨wz, hwz⟩ : ∃ wz, (((((((w9.setCell ⟨xb, 0, none⟩ (.int .i64 0)).setCell ⟨xb, 1, none⟩ (.int .i64 0)).setCell ⟨xb, 2, none⟩ (.int .i64 0)).setCell ⟨xb, 3, none⟩ (.int .i64 0)).setCell ⟨xb, 4, none⟩ (.int .u64 0)).setCell ⟨xb, 5, none⟩ (.string ⟨#[]⟩)).setCell ⟨xb, 6, none⟩ (.int .i64 0)) = wz := ⟨_, rfl⟩
      have hwz' : stored w9 xb zero = wz := hwz
      rw [hwz'] at xz kz
      have tz := (t9').keep kz hbx
      have Kz : Keeps (fun x => x = b) w wz := K9.trans' kz (fun x e hl => by have := HXB.out; omega)
      obtain ⟨y0, y1, y2, y3, y4, y5, y6⟩ := xz.all
      have HF := Hid.of (And.intro tz Kz)
      have HY := Hid.of (And.intro y0 (And.intro y1 (And.intro y2 (And.intro y3 (And.intro y4 (And.intro y5 y6))))))
      subst hts
      clear HTS xz kz tz Kz hwz' y0 y1 y2 y3 y4 y5 y6 hsf
      go_wp2
      go_step3
      go_wp2
      obtain ⟨y0, y1, y2, y3, y4, y5, y6⟩ := HY.out
      try simp only [Exit.jump, Exit.inBlock, Exit.then]
      refine bodyPost_ret (v := .tuple #[Stp.val zero, .bool false]) ?_ ?_ ?_
      · simp [results, Try.results63, go_sem, y0, y1, y2, y3, y4, y5, y6, Stp.val]
      · rfl
      · exact ⟨rfl, HF.out⟩
    · have hsf' : tf.short = false := by simpa using hsf
      rw [hsf'] at sh
      have hts : ts = ((⟨9, n2, v1, v2, hd, [], bk⟩, true), tf) := by have := HTS.out; rw [if_neg hsf] at this; exact this
      have xz := x9.store ⟨9, n2, v1, v2, hd, [], bk⟩
      have kz := ksets w9 xb ⟨9, n2, v1, v2, hd, [], bk⟩
      obtain ⟨wz, hwz⟩ : ∃ wz, (((((((w9.setCell ⟨xb, 0, none⟩ (.int .i64 9)).setCell ⟨xb, 1, none⟩ (.int .i64 n2)).setCell ⟨xb, 2, none⟩ (.int .i64 v1)).setCell ⟨xb, 3, none⟩ (.int .i64 v2)).setCell ⟨xb, 4, none⟩ (.int .u64 hd)).setCell ⟨xb, 5, none⟩ (.string (bs []))).setCell ⟨xb, 6, none⟩ (.int .i64 bk)) = wz := ⟨_, rfl⟩
      have hwz' : stored w9 xb ⟨9, n2, v1, v2, hd, [], bk⟩ = wz := hwz
      rw [hwz'] at xz kz
      have tz := (t9').keep kz hbx
      have Kz : Keeps (fun x => x = b) w wz := K9.trans' kz (fun x e hl => by have := HXB.out; omega)
      obtain ⟨y0, y1, y2, y3, y4, y5, y6⟩ := xz.all
      have HF := Hid.of (And.intro tz Kz)
      have HY := Hid.of (And.intro y0 (And.intro y1 (And.intro y2 (And.intro y3 (And.intro y4 (And.intro y5 y6))))))
      subst hts
      clear HTS xz kz tz Kz hwz' y0 y1 y2 y3 y4 y5 y6 hsf hsf'
      go_wp2
      obtain ⟨y0, y1, y2, y3, y4, y5, y6⟩ := HY.out
      try simp only [Exit.jump, Exit.inBlock, Exit.then]
      refine bodyPost_ret (v := .tuple #[Stp.val ⟨9, n2, v1, v2, hd, [], bk⟩, .bool true]) ?_ ?_ ?_
      · simp [results, Try.results63, go_sem, y0, y1, y2, y3, y4, y5, y6, Stp.val]
      · rfl
      · exact ⟨rfl, HF.out⟩
set_option maxRecDepth 100000 in
set_option maxHeartbeats 2000000 in
theorem step_ht (w : World) (b : Nat) (t : Tp) (k : Int) (hks : k = 10) (ht : TAt w b t) (h : t.rest ≠ []) (hl : t.rest.length ≤ 1000000) (hk : (tone t).1 % 16 = k) :
    Calls Try.prog 63 #[.pointer (some ⟨b, 0, none⟩)] w fun e w' => e = .returned (.tuple #[(tstep t).1.1.val, .bool (tstep t).1.2]) ∧ TAt w' b (tstep t).2 ∧ Keeps (fun x => x = b) w w' := by
  have HT := tstep_of t k h hk
  have l1 := tone_rest t
  have l2 := tone_rest (tone t).2
  obtain ⟨b1, b2⟩ := tone_bd t
  have q1 := fun (w : World) (ht : TAt w b t) => one_any w b t ht hl
  have q2 := fun (w : World) (ht : TAt w b (tone t).2) => one_any w b _ ht (by omega)
  rcases hks with rfl
  · have c0 := cell_of (v := .string (bs t.rest)) ht 0 rfl
    have hie : List.isEmpty t.rest = false := by cases hr : t.rest with
      | nil => exact absurd hr h
      | cons a l => rfl
    generalize tstep t = ts at *
    generalize hn1 : (tone t).1 = n1 at *
    generalize ht1 : (tone t).2 = t1 at *
    generalize hn2 : (tone t1).1 = n2 at *
    generalize ht2 : (tone t1).2 = t2 at *
    clear hn1 ht1 hn2 ht2
    have l3 := thand_rest t2
    have q3 := fun (w : World) (xb : Nat) (s : Stp) (ht : TAt w b t2) (hx : XAt w xb s) (hne : b ≠ xb) (h0 : s.handle = 0) => handle_any w b xb t2 s ht hx hne h0 (by omega)
    have e1 : tail1 10 t2 = thand t2 := rfl
    rw [e1] at HT
    generalize (thand t2).1.1 = bk at *
    generalize (thand t2).1.2 = hd at *
    generalize (thand t2).2 = t3 at *
    have l4 := tnum_rest t3
    have q4 := fun (w : World) (ht : TAt w b t3) => num_any w b t3 ht (by omega)
    have q5 := fun (w : World) (ht : TAt w b (tnum t3).2) => text_any w b (tnum t3).2 ht (by omega)
    have e2 : tail2 10 t3 = (((tnum t3).1, 0, (ttext (tnum t3).2).1), (ttext (tnum t3).2).2) := rfl
    rw [e2] at HT
    simp only [] at HT
    generalize (tnum t3).1 = v1 at *
    generalize (tnum t3).2 = t4 at *
    generalize (ttext t4).1 = dd at *
    generalize (ttext t4).2 = tf at *
    have HTS := Hid.of HT
    clear HT h l1 l2 e1 e2
    have hxb : b < w.heap.size := lt_of ht
    obtain ⟨w1, hw1⟩ : ∃ w1, w.alloc (.cells #[.int .i64 0, .int .i64 0, .int .i64 0, .int .i64 0, .int .u64 0, .string ⟨#[]⟩, .int .i64 0] 108) = w1 := ⟨_, rfl⟩
    have x1 : XAt w1 w.heap.size zero := by rw [← hw1]; exact alloc_new _ _
    have K1 : Keeps (fun x => x = b) w w1 := by rw [← hw1]; exact (Keeps.refl _ _).alloc _
    have t1' : TAt w1 b t := by rw [← hw1]; exact alloc_old ht _
    have c01 := cell_of (v := .string (bs t.rest)) t1' 0 rfl
    go_enter Try.func63, Try.ntmps63
    go_wp2
    refine wp_scope_fwd 0 rfl ?_
    obtain ⟨xb, hxe⟩ : ∃ xb, w.heap.size = xb := ⟨_, rfl⟩
    rw [hxe] at x1 hxb
    have HXB := Hid.of hxe
    have hbx : b ≠ xb := by omega
    have hxk : ¬ xb = b := by omega
    clear hw1 c0 ht
    go_wp2_with fail
    refine (q1 w1 t1').mono ?_
    rintro e w2 ⟨rfl, t2', k2⟩
    have x2 := (x1.keep k2 hxk).set_kind 10
    have k3 := kset w2 xb 0 (.int .i64 10)
    obtain ⟨w3, hw3⟩ : ∃ w3, w2.setCell ⟨xb, 0, none⟩ (.int .i64 10) = w3 := ⟨_, rfl⟩
    have ff := (x1.keep k2 hxk).free
    obtain ⟨f0, f1, f2, f3, f4, f5, f6⟩ := ff
    have aa := (x1.keep k2 hxk).all
    obtain ⟨a0, a1, a2, a3, a4, a5, a6⟩ := aa
    rw [hw3] at x2 k3
    have t3' := t2'.keep k3 hbx
    have K3 := Keeps.two K1 k2 k3 (by omega) HXB.out
    clear q1 x1 k2 k3 t1' t2' c01 K1
    go_wp2_with fail
    refine (q2 w3 t3').mono ?_
    rintro e w4 ⟨rfl, t4', k4⟩
    clear f0 f1 f2 f3 f4 f5 f6 a0 a1 a2 a3 a4 a5 a6 hw3
    have x4 := (x2.keep k4 hxk).set_tenant n2
    obtain ⟨f0, f1, f2, f3, f4, f5, f6⟩ := (x2.keep k4 hxk).free
    obtain ⟨a0, a1, a2, a3, a4, a5, a6⟩ := (x2.keep k4 hxk).all
    have k5 := kset w4 xb 1 (.int .i64 n2)
    obtain ⟨w5, hw5⟩ : ∃ w5, w4.setCell ⟨xb, 1, none⟩ (.int .i64 n2) = w5 := ⟨_, rfl⟩
    rw [hw5] at x4 k5
    have t5' := t4'.keep k5 hbx
    have K5 := Keeps.two K3 k4 k5 (by omega) HXB.out
    have z0 := cell_of (v := .int .i64 10) x4 0 rfl
    clear q2 x2 k4 k5 t3' t4' K3
    go_wp2_with fail
    refine (q3 w5 xb _ t5' x4 hbx rfl).mono ?_
    rintro e w6 ⟨rfl, t6', x6, k6⟩
    clear f0 f1 f2 f3 f4 f5 f6 a0 a1 a2 a3 a4 a5 a6 hw5 z0
    have K6 := K5.trans' k6 (fun x hx hl => by have := HXB.out; omega)
    simp only [] at x6
    have z0 := cell_of (v := .int .i64 10) x6 0 rfl
    clear q3 x4 k6 t5' K5
    go_wp2_with fail
    refine (q4 w6 t6').mono ?_
    rintro e w8 ⟨rfl, t8', k8⟩
    clear z0
    have x8 := x6.keep k8 hxk
    obtain ⟨f0, f1, f2, f3, f4, f5, f6⟩ := x8.free
    obtain ⟨a0, a1, a2, a3, a4, a5, a6⟩ := x8.all
    have x9 := x8.set_n v1
    have k9 := kset w8 xb 2 (.int .i64 v1)
    obtain ⟨w9, hw9⟩ : ∃ w9, w8.setCell ⟨xb, 2, none⟩ (.int .i64 v1) = w9 := ⟨_, rfl⟩
    rw [hw9] at x9 k9
    have t9' := t8'.keep k9 hbx
    have K9 := Keeps.two K6 k8 k9 (by omega) HXB.out
    simp only [] at x9
    clear q4 x6 k8 k9 x8 t8'
    go_wp2_with fail
    refine (q5 w9 t9').mono ?_
    rintro e w10 ⟨rfl, t10', k10⟩
    clear f0 f1 f2 f3 f4 f5 f6 a0 a1 a2 a3 a4 a5 a6 hw9
    have x10 := x9.keep k10 hxk
    obtain ⟨f0, f1, f2, f3, f4, f5, f6⟩ := x10.free
    obtain ⟨a0, a1, a2, a3, a4, a5, a6⟩ := x10.all
    have x11 := x10.set_data dd
    have k11 := kset w10 xb 5 (.string (bs dd))
    obtain ⟨w11, hw11⟩ : ∃ w11, w10.setCell ⟨xb, 5, none⟩ (.string (bs dd)) = w11 := ⟨_, rfl⟩
    rw [hw11] at x11 k11
    have t11' := t10'.keep k11 hbx
    have K11 := Keeps.two K9 k10 k11 (by omega) HXB.out
    simp only [] at x11
    clear q5 x9 k10 k11 x10 t10' t9'
    simp only [zero] at x11
    obtain ⟨g0, g1, g2, g3, g4, g5, g6⟩ := x11.free
    obtain ⟨h0, h1, h2, h3, h4, h5, h6⟩ := x11.all
    have sh := cell_of (v := .bool tf.short) t11' 1 rfl
    by_cases hsf : tf.short = true
    · rw [hsf] at sh
      have hts : ts = ((zero, false), tf) := by have := HTS.out; rw [if_pos hsf] at this; exact this
      have xz := x11.store zero
      have kz := ksets w11 xb zero
      obtain ⟨wz, hwz⟩ : ∃ wz, (((((((w11.setCell ⟨xb, 0, none⟩ (.int .i64 0)).setCell ⟨xb, 1, none⟩ (.int .i64 0)).setCell ⟨xb, 2, none⟩ (.int .i64 0)).setCell ⟨xb, 3, none⟩ (.int .i64 0)).setCell ⟨xb, 4, none⟩ (.int .u64 0)).setCell ⟨xb, 5, none⟩ (.string ⟨#[]⟩)).setCell ⟨xb, 6, none⟩ (.int .i64 0)) = wz := ⟨_, rfl⟩
      have hwz' : stored w11 xb zero = wz := hwz
      rw [hwz'] at xz kz
      have tz := (t11').keep kz hbx
      have Kz : Keeps (fun x => x = b) w wz := K11.trans' kz (fun x e hl => by have := HXB.out; omega)
      obtain ⟨y0, y1, y2, y3, y4, y5, y6⟩ := xz.all
      have HF := Hid.of (And.intro tz Kz)
      have HY := Hid.of (And.intro y0 (And.intro y1 (And.intro y2 (And.intro y3 (And.intro y4 (And.intro y5 y6))))))
      subst hts
      clear HTS xz kz tz Kz hwz' y0 y1 y2 y3 y4 y5 y6 hsf
      go_wp2
      go_step3
      go_wp2
      obtain ⟨y0, y1, y2, y3, y4, y5, y6⟩ := HY.out
      try simp only [Exit.jump, Exit.inBlock, Exit.then]
      refine bodyPost_ret (v := .tuple #[Stp.val zero, .bool false]) ?_ ?_ ?_
      · simp [results, Try.results63, go_sem, y0, y1, y2, y3, y4, y5, y6, Stp.val]
      · rfl
      · exact ⟨rfl, HF.out⟩
    · have hsf' : tf.short = false := by simpa using hsf
      rw [hsf'] at sh
      have hts : ts = ((⟨10, n2, v1, 0, hd, dd, bk⟩, true), tf) := by have := HTS.out; rw [if_neg hsf] at this; exact this
      have xz := x11.store ⟨10, n2, v1, 0, hd, dd, bk⟩
      have kz := ksets w11 xb ⟨10, n2, v1, 0, hd, dd, bk⟩
      obtain ⟨wz, hwz⟩ : ∃ wz, (((((((w11.setCell ⟨xb, 0, none⟩ (.int .i64 10)).setCell ⟨xb, 1, none⟩ (.int .i64 n2)).setCell ⟨xb, 2, none⟩ (.int .i64 v1)).setCell ⟨xb, 3, none⟩ (.int .i64 0)).setCell ⟨xb, 4, none⟩ (.int .u64 hd)).setCell ⟨xb, 5, none⟩ (.string (bs dd))).setCell ⟨xb, 6, none⟩ (.int .i64 bk)) = wz := ⟨_, rfl⟩
      have hwz' : stored w11 xb ⟨10, n2, v1, 0, hd, dd, bk⟩ = wz := hwz
      rw [hwz'] at xz kz
      have tz := (t11').keep kz hbx
      have Kz : Keeps (fun x => x = b) w wz := K11.trans' kz (fun x e hl => by have := HXB.out; omega)
      obtain ⟨y0, y1, y2, y3, y4, y5, y6⟩ := xz.all
      have HF := Hid.of (And.intro tz Kz)
      have HY := Hid.of (And.intro y0 (And.intro y1 (And.intro y2 (And.intro y3 (And.intro y4 (And.intro y5 y6))))))
      subst hts
      clear HTS xz kz tz Kz hwz' y0 y1 y2 y3 y4 y5 y6 hsf hsf'
      go_wp2
      obtain ⟨y0, y1, y2, y3, y4, y5, y6⟩ := HY.out
      try simp only [Exit.jump, Exit.inBlock, Exit.then]
      refine bodyPost_ret (v := .tuple #[Stp.val ⟨10, n2, v1, 0, hd, dd, bk⟩, .bool true]) ?_ ?_ ?_
      · simp [results, Try.results63, go_sem, y0, y1, y2, y3, y4, y5, y6, Stp.val]
      · rfl
      · exact ⟨rfl, HF.out⟩
set_option maxRecDepth 100000 in
set_option maxHeartbeats 2000000 in
theorem step_o (w : World) (b : Nat) (t : Tp) (k : Int) (hks : k = 0 ∨ k = 3 ∨ k = 12 ∨ k = 13 ∨ k = 14 ∨ k = 15) (ht : TAt w b t) (h : t.rest ≠ []) (hl : t.rest.length ≤ 1000000) (hk : (tone t).1 % 16 = k) :
    Calls Try.prog 63 #[.pointer (some ⟨b, 0, none⟩)] w fun e w' => e = .returned (.tuple #[(tstep t).1.1.val, .bool (tstep t).1.2]) ∧ TAt w' b (tstep t).2 ∧ Keeps (fun x => x = b) w w' := by
  have HT := tstep_of t k h hk
  have l1 := tone_rest t
  have l2 := tone_rest (tone t).2
  obtain ⟨b1, b2⟩ := tone_bd t
  have q1 := fun (w : World) (ht : TAt w b t) => one_any w b t ht hl
  have q2 := fun (w : World) (ht : TAt w b (tone t).2) => one_any w b _ ht (by omega)
  rcases hks with rfl | rfl | rfl | rfl | rfl | rfl
  · have c0 := cell_of (v := .string (bs t.rest)) ht 0 rfl
    have hie : List.isEmpty t.rest = false := by cases hr : t.rest with
      | nil => exact absurd hr h
      | cons a l => rfl
    generalize tstep t = ts at *
    generalize hn1 : (tone t).1 = n1 at *
    generalize ht1 : (tone t).2 = t1 at *
    generalize hn2 : (tone t1).1 = n2 at *
    generalize ht2 : (tone t1).2 = t2 at *
    clear hn1 ht1 hn2 ht2
    have e1 : tail1 0 t2 = ((0, 0), t2) := rfl
    rw [e1] at HT
    simp only [] at HT
    have e2 : tail2 0 t2 = ((0, 0, []), t2) := rfl
    rw [e2] at HT
    simp only [] at HT
    obtain ⟨tf, htf⟩ : ∃ tf, t2 = tf := ⟨_, rfl⟩
    rw [htf] at HT
    have HTS := Hid.of HT
    clear HT h l1 l2 e1 e2
    have hxb : b < w.heap.size := lt_of ht
    obtain ⟨w1, hw1⟩ : ∃ w1, w.alloc (.cells #[.int .i64 0, .int .i64 0, .int .i64 0, .int .i64 0, .int .u64 0, .string ⟨#[]⟩, .int .i64 0] 108) = w1 := ⟨_, rfl⟩
    have x1 : XAt w1 w.heap.size zero := by rw [← hw1]; exact alloc_new _ _
    have K1 : Keeps (fun x => x = b) w w1 := by rw [← hw1]; exact (Keeps.refl _ _).alloc _
    have t1' : TAt w1 b t := by rw [← hw1]; exact alloc_old ht _
    have c01 := cell_of (v := .string (bs t.rest)) t1' 0 rfl
    go_enter Try.func63, Try.ntmps63
    go_wp2
    refine wp_scope_fwd 0 rfl ?_
    obtain ⟨xb, hxe⟩ : ∃ xb, w.heap.size = xb := ⟨_, rfl⟩
    rw [hxe] at x1 hxb
    have HXB := Hid.of hxe
    have hbx : b ≠ xb := by omega
    have hxk : ¬ xb = b := by omega
    clear hw1 c0 ht
    go_wp2_with fail
    refine (q1 w1 t1').mono ?_
    rintro e w2 ⟨rfl, t2', k2⟩
    have x2 := (x1.keep k2 hxk).set_kind 0
    have k3 := kset w2 xb 0 (.int .i64 0)
    obtain ⟨w3, hw3⟩ : ∃ w3, w2.setCell ⟨xb, 0, none⟩ (.int .i64 0) = w3 := ⟨_, rfl⟩
    have ff := (x1.keep k2 hxk).free
    obtain ⟨f0, f1, f2, f3, f4, f5, f6⟩ := ff
    have aa := (x1.keep k2 hxk).all
    obtain ⟨a0, a1, a2, a3, a4, a5, a6⟩ := aa
    rw [hw3] at x2 k3
    have t3' := t2'.keep k3 hbx
    have K3 := Keeps.two K1 k2 k3 (by omega) HXB.out
    clear q1 x1 k2 k3 t1' t2' c01 K1
    go_wp2_with fail
    refine (q2 w3 t3').mono ?_
    rintro e w4 ⟨rfl, t4', k4⟩
    clear f0 f1 f2 f3 f4 f5 f6 a0 a1 a2 a3 a4 a5 a6 hw3
    have x4 := (x2.keep k4 hxk).set_tenant n2
    obtain ⟨f0, f1, f2, f3, f4, f5, f6⟩ := (x2.keep k4 hxk).free
    obtain ⟨a0, a1, a2, a3, a4, a5, a6⟩ := (x2.keep k4 hxk).all
    have k5 := kset w4 xb 1 (.int .i64 n2)
    obtain ⟨w5, hw5⟩ : ∃ w5, w4.setCell ⟨xb, 1, none⟩ (.int .i64 n2) = w5 := ⟨_, rfl⟩
    rw [hw5] at x4 k5
    have t5' := t4'.keep k5 hbx
    have K5 := Keeps.two K3 k4 k5 (by omega) HXB.out
    have z0 := cell_of (v := .int .i64 0) x4 0 rfl
    clear q2 x2 k4 k5 t3' t4' K3
    rw [htf] at t5'
    simp only [zero] at x4
    obtain ⟨g0, g1, g2, g3, g4, g5, g6⟩ := x4.free
    obtain ⟨h0, h1, h2, h3, h4, h5, h6⟩ := x4.all
    have sh := cell_of (v := .bool tf.short) t5' 1 rfl
    by_cases hsf : tf.short = true
    · rw [hsf] at sh
      have hts : ts = ((zero, false), tf) := by have := HTS.out; rw [if_pos hsf] at this; exact this
      have xz := x4.store zero
      have kz := ksets w5 xb zero
      obtain ⟨wz, hwz⟩ : ∃ wz, (((((((w5.setCell ⟨xb, 0, none⟩ (.int .i64 0)).setCell ⟨xb, 1, none⟩ (.int .i64 0)).setCell ⟨xb, 2, none⟩ (.int .i64 0)).setCell ⟨xb, 3, none⟩ (.int .i64 0)).setCell ⟨xb, 4, none⟩ (.int .u64 0)).setCell ⟨xb, 5, none⟩ (.string ⟨#[]⟩)).setCell ⟨xb, 6, none⟩ (.int .i64 0)) = wz := ⟨_, rfl⟩
      have hwz' : stored w5 xb zero = wz := hwz
      rw [hwz'] at xz kz
      have tz := (t5').keep kz hbx
      have Kz : Keeps (fun x => x = b) w wz := K5.trans' kz (fun x e hl => by have := HXB.out; omega)
      obtain ⟨y0, y1, y2, y3, y4, y5, y6⟩ := xz.all
      have HF := Hid.of (And.intro tz Kz)
      have HY := Hid.of (And.intro y0 (And.intro y1 (And.intro y2 (And.intro y3 (And.intro y4 (And.intro y5 y6))))))
      subst hts
      clear HTS xz kz tz Kz hwz' y0 y1 y2 y3 y4 y5 y6 hsf
      go_wp2
      go_step3
      go_wp2
      obtain ⟨y0, y1, y2, y3, y4, y5, y6⟩ := HY.out
      try simp only [Exit.jump, Exit.inBlock, Exit.then]
      refine bodyPost_ret (v := .tuple #[Stp.val zero, .bool false]) ?_ ?_ ?_
      · simp [results, Try.results63, go_sem, y0, y1, y2, y3, y4, y5, y6, Stp.val]
      · rfl
      · exact ⟨rfl, HF.out⟩
    · have hsf' : tf.short = false := by simpa using hsf
      rw [hsf'] at sh
      have hts : ts = ((⟨0, n2, 0, 0, 0, [], 0⟩, true), tf) := by have := HTS.out; rw [if_neg hsf] at this; exact this
      have xz := x4.store ⟨0, n2, 0, 0, 0, [], 0⟩
      have kz := ksets w5 xb ⟨0, n2, 0, 0, 0, [], 0⟩
      obtain ⟨wz, hwz⟩ : ∃ wz, (((((((w5.setCell ⟨xb, 0, none⟩ (.int .i64 0)).setCell ⟨xb, 1, none⟩ (.int .i64 n2)).setCell ⟨xb, 2, none⟩ (.int .i64 0)).setCell ⟨xb, 3, none⟩ (.int .i64 0)).setCell ⟨xb, 4, none⟩ (.int .u64 0)).setCell ⟨xb, 5, none⟩ (.string (bs []))).setCell ⟨xb, 6, none⟩ (.int .i64 0)) = wz := ⟨_, rfl⟩
      have hwz' : stored w5 xb ⟨0, n2, 0, 0, 0, [], 0⟩ = wz := hwz
      rw [hwz'] at xz kz
      have tz := (t5').keep kz hbx
      have Kz : Keeps (fun x => x = b) w wz := K5.trans' kz (fun x e hl => by have := HXB.out; omega)
      obtain ⟨y0, y1, y2, y3, y4, y5, y6⟩ := xz.all
      have HF := Hid.of (And.intro tz Kz)
      have HY := Hid.of (And.intro y0 (And.intro y1 (And.intro y2 (And.intro y3 (And.intro y4 (And.intro y5 y6))))))
      subst hts
      clear HTS xz kz tz Kz hwz' y0 y1 y2 y3 y4 y5 y6 hsf hsf'
      go_wp2
      obtain ⟨y0, y1, y2, y3, y4, y5, y6⟩ := HY.out
      try simp only [Exit.jump, Exit.inBlock, Exit.then]
      refine bodyPost_ret (v := .tuple #[Stp.val ⟨0, n2, 0, 0, 0, [], 0⟩, .bool true]) ?_ ?_ ?_
      · simp [results, Try.results63, go_sem, y0, y1, y2, y3, y4, y5, y6, Stp.val]
      · rfl
      · exact ⟨rfl, HF.out⟩
  · have c0 := cell_of (v := .string (bs t.rest)) ht 0 rfl
    have hie : List.isEmpty t.rest = false := by cases hr : t.rest with
      | nil => exact absurd hr h
      | cons a l => rfl
    generalize tstep t = ts at *
    generalize hn1 : (tone t).1 = n1 at *
    generalize ht1 : (tone t).2 = t1 at *
    generalize hn2 : (tone t1).1 = n2 at *
    generalize ht2 : (tone t1).2 = t2 at *
    clear hn1 ht1 hn2 ht2
    have e1 : tail1 3 t2 = ((0, 0), t2) := rfl
    rw [e1] at HT
    simp only [] at HT
    have e2 : tail2 3 t2 = ((0, 0, []), t2) := rfl
    rw [e2] at HT
    simp only [] at HT
    obtain ⟨tf, htf⟩ : ∃ tf, t2 = tf := ⟨_, rfl⟩
    rw [htf] at HT
    have HTS := Hid.of HT
    clear HT h l1 l2 e1 e2
    have hxb : b < w.heap.size := lt_of ht
    obtain ⟨w1, hw1⟩ : ∃ w1, w.alloc (.cells #[.int .i64 0, .int .i64 0, .int .i64 0, .int .i64 0, .int .u64 0, .string ⟨#[]⟩, .int .i64 0] 108) = w1 := ⟨_, rfl⟩
    have x1 : XAt w1 w.heap.size zero := by rw [← hw1]; exact alloc_new _ _
    have K1 : Keeps (fun x => x = b) w w1 := by rw [← hw1]; exact (Keeps.refl _ _).alloc _
    have t1' : TAt w1 b t := by rw [← hw1]; exact alloc_old ht _
    have c01 := cell_of (v := .string (bs t.rest)) t1' 0 rfl
    go_enter Try.func63, Try.ntmps63
    go_wp2
    refine wp_scope_fwd 0 rfl ?_
    obtain ⟨xb, hxe⟩ : ∃ xb, w.heap.size = xb := ⟨_, rfl⟩
    rw [hxe] at x1 hxb
    have HXB := Hid.of hxe
    have hbx : b ≠ xb := by omega
    have hxk : ¬ xb = b := by omega
    clear hw1 c0 ht
    go_wp2_with fail
    refine (q1 w1 t1').mono ?_
    rintro e w2 ⟨rfl, t2', k2⟩
    have x2 := (x1.keep k2 hxk).set_kind 3
    have k3 := kset w2 xb 0 (.int .i64 3)
    obtain ⟨w3, hw3⟩ : ∃ w3, w2.setCell ⟨xb, 0, none⟩ (.int .i64 3) = w3 := ⟨_, rfl⟩
    have ff := (x1.keep k2 hxk).free
    obtain ⟨f0, f1, f2, f3, f4, f5, f6⟩ := ff
    have aa := (x1.keep k2 hxk).all
    obtain ⟨a0, a1, a2, a3, a4, a5, a6⟩ := aa
    rw [hw3] at x2 k3
    have t3' := t2'.keep k3 hbx
    have K3 := Keeps.two K1 k2 k3 (by omega) HXB.out
    clear q1 x1 k2 k3 t1' t2' c01 K1
    go_wp2_with fail
    refine (q2 w3 t3').mono ?_
    rintro e w4 ⟨rfl, t4', k4⟩
    clear f0 f1 f2 f3 f4 f5 f6 a0 a1 a2 a3 a4 a5 a6 hw3
    have x4 := (x2.keep k4 hxk).set_tenant n2
    obtain ⟨f0, f1, f2, f3, f4, f5, f6⟩ := (x2.keep k4 hxk).free
    obtain ⟨a0, a1, a2, a3, a4, a5, a6⟩ := (x2.keep k4 hxk).all
    have k5 := kset w4 xb 1 (.int .i64 n2)
    obtain ⟨w5, hw5⟩ : ∃ w5, w4.setCell ⟨xb, 1, none⟩ (.int .i64 n2) = w5 := ⟨_, rfl⟩
    rw [hw5] at x4 k5
    have t5' := t4'.keep k5 hbx
    have K5 := Keeps.two K3 k4 k5 (by omega) HXB.out
    have z0 := cell_of (v := .int .i64 3) x4 0 rfl
    clear q2 x2 k4 k5 t3' t4' K3
    rw [htf] at t5'
    simp only [zero] at x4
    obtain ⟨g0, g1, g2, g3, g4, g5, g6⟩ := x4.free
    obtain ⟨h0, h1, h2, h3, h4, h5, h6⟩ := x4.all
    have sh := cell_of (v := .bool tf.short) t5' 1 rfl
    by_cases hsf : tf.short = true
    · rw [hsf] at sh
      have hts : ts = ((zero, false), tf) := by have := HTS.out; rw [if_pos hsf] at this; exact this
      have xz := x4.store zero
      have kz := ksets w5 xb zero
      obtain ⟨wz, hwz⟩ : ∃ wz, (((((((w5.setCell ⟨xb, 0, none⟩ (.int .i64 0)).setCell ⟨xb, 1, none⟩ (.int .i64 0)).setCell ⟨xb, 2, none⟩ (.int .i64 0)).setCell ⟨xb, 3, none⟩ (.int .i64 0)).setCell ⟨xb, 4, none⟩ (.int .u64 0)).setCell ⟨xb, 5, none⟩ (.string ⟨#[]⟩)).setCell ⟨xb, 6, none⟩ (.int .i64 0)) = wz := ⟨_, rfl⟩
      have hwz' : stored w5 xb zero = wz := hwz
      rw [hwz'] at xz kz
      have tz := (t5').keep kz hbx
      have Kz : Keeps (fun x => x = b) w wz := K5.trans' kz (fun x e hl => by have := HXB.out; omega)
      obtain ⟨y0, y1, y2, y3, y4, y5, y6⟩ := xz.all
      have HF := Hid.of (And.intro tz Kz)
      have HY := Hid.of (And.intro y0 (And.intro y1 (And.intro y2 (And.intro y3 (And.intro y4 (And.intro y5 y6))))))
      subst hts
      clear HTS xz kz tz Kz hwz' y0 y1 y2 y3 y4 y5 y6 hsf
      go_wp2
      go_step3
      go_wp2
      obtain ⟨y0, y1, y2, y3, y4, y5, y6⟩ := HY.out
      try simp only [Exit.jump, Exit.inBlock, Exit.then]
      refine bodyPost_ret (v := .tuple #[Stp.val zero, .bool false]) ?_ ?_ ?_
      · simp [results, Try.results63, go_sem, y0, y1, y2, y3, y4, y5, y6, Stp.val]
      · rfl
      · exact ⟨rfl, HF.out⟩
    · have hsf' : tf.short = false := by simpa using hsf
      rw [hsf'] at sh
      have hts : ts = ((⟨3, n2, 0, 0, 0, [], 0⟩, true), tf) := by have := HTS.out; rw [if_neg hsf] at this; exact this
      have xz := x4.store ⟨3, n2, 0, 0, 0, [], 0⟩
      have kz := ksets w5 xb ⟨3, n2, 0, 0, 0, [], 0⟩
      obtain ⟨wz, hwz⟩ : ∃ wz, (((((((w5.setCell ⟨xb, 0, none⟩ (.int .i64 3)).setCell ⟨xb, 1, none⟩ (.int .i64 n2)).setCell ⟨xb, 2, none⟩ (.int .i64 0)).setCell ⟨xb, 3, none⟩ (.int .i64 0)).setCell ⟨xb, 4, none⟩ (.int .u64 0)).setCell ⟨xb, 5, none⟩ (.string (bs []))).setCell ⟨xb, 6, none⟩ (.int .i64 0)) = wz := ⟨_, rfl⟩
      have hwz' : stored w5 xb ⟨3, n2, 0, 0, 0, [], 0⟩ = wz := hwz
      rw [hwz'] at xz kz
      have tz := (t5').keep kz hbx
      have Kz : Keeps (fun x => x = b) w wz := K5.trans' kz (fun x e hl => by have := HXB.out; omega)
      obtain ⟨y0, y1, y2, y3, y4, y5, y6⟩ := xz.all
      have HF := Hid.of (And.intro tz Kz)
      have HY := Hid.of (And.intro y0 (And.intro y1 (And.intro y2 (And.intro y3 (And.intro y4 (And.intro y5 y6))))))
      subst hts
      clear HTS xz kz tz Kz hwz' y0 y1 y2 y3 y4 y5 y6 hsf hsf'
      go_wp2
      obtain ⟨y0, y1, y2, y3, y4, y5, y6⟩ := HY.out
      try simp only [Exit.jump, Exit.inBlock, Exit.then]
      refine bodyPost_ret (v := .tuple #[Stp.val ⟨3, n2, 0, 0, 0, [], 0⟩, .bool true]) ?_ ?_ ?_
      · simp [results, Try.results63, go_sem, y0, y1, y2, y3, y4, y5, y6, Stp.val]
      · rfl
      · exact ⟨rfl, HF.out⟩
  · have c0 := cell_of (v := .string (bs t.rest)) ht 0 rfl
    have hie : List.isEmpty t.rest = false := by cases hr : t.rest with
      | nil => exact absurd hr h
      | cons a l => rfl
    generalize tstep t = ts at *
    generalize hn1 : (tone t).1 = n1 at *
    generalize ht1 : (tone t).2 = t1 at *
    generalize hn2 : (tone t1).1 = n2 at *
    generalize ht2 : (tone t1).2 = t2 at *
    clear hn1 ht1 hn2 ht2
    have e1 : tail1 12 t2 = ((0, 0), t2) := rfl
    rw [e1] at HT
    simp only [] at HT
    have e2 : tail2 12 t2 = ((0, 0, []), t2) := rfl
    rw [e2] at HT
    simp only [] at HT
    obtain ⟨tf, htf⟩ : ∃ tf, t2 = tf := ⟨_, rfl⟩
    rw [htf] at HT
    have HTS := Hid.of HT
    clear HT h l1 l2 e1 e2
    have hxb : b < w.heap.size := lt_of ht
    obtain ⟨w1, hw1⟩ : ∃ w1, w.alloc (.cells #[.int .i64 0, .int .i64 0, .int .i64 0, .int .i64 0, .int .u64 0, .string ⟨#[]⟩, .int .i64 0] 108) = w1 := ⟨_, rfl⟩
    have x1 : XAt w1 w.heap.size zero := by rw [← hw1]; exact alloc_new _ _
    have K1 : Keeps (fun x => x = b) w w1 := by rw [← hw1]; exact (Keeps.refl _ _).alloc _
    have t1' : TAt w1 b t := by rw [← hw1]; exact alloc_old ht _
    have c01 := cell_of (v := .string (bs t.rest)) t1' 0 rfl
    go_enter Try.func63, Try.ntmps63
    go_wp2
    refine wp_scope_fwd 0 rfl ?_
    obtain ⟨xb, hxe⟩ : ∃ xb, w.heap.size = xb := ⟨_, rfl⟩
    rw [hxe] at x1 hxb
    have HXB := Hid.of hxe
    have hbx : b ≠ xb := by omega
    have hxk : ¬ xb = b := by omega
    clear hw1 c0 ht
    go_wp2_with fail
    refine (q1 w1 t1').mono ?_
    rintro e w2 ⟨rfl, t2', k2⟩
    have x2 := (x1.keep k2 hxk).set_kind 12
    have k3 := kset w2 xb 0 (.int .i64 12)
    obtain ⟨w3, hw3⟩ : ∃ w3, w2.setCell ⟨xb, 0, none⟩ (.int .i64 12) = w3 := ⟨_, rfl⟩
    have ff := (x1.keep k2 hxk).free
    obtain ⟨f0, f1, f2, f3, f4, f5, f6⟩ := ff
    have aa := (x1.keep k2 hxk).all
    obtain ⟨a0, a1, a2, a3, a4, a5, a6⟩ := aa
    rw [hw3] at x2 k3
    have t3' := t2'.keep k3 hbx
    have K3 := Keeps.two K1 k2 k3 (by omega) HXB.out
    clear q1 x1 k2 k3 t1' t2' c01 K1
    go_wp2_with fail
    refine (q2 w3 t3').mono ?_
    rintro e w4 ⟨rfl, t4', k4⟩
    clear f0 f1 f2 f3 f4 f5 f6 a0 a1 a2 a3 a4 a5 a6 hw3
    have x4 := (x2.keep k4 hxk).set_tenant n2
    obtain ⟨f0, f1, f2, f3, f4, f5, f6⟩ := (x2.keep k4 hxk).free
    obtain ⟨a0, a1, a2, a3, a4, a5, a6⟩ := (x2.keep k4 hxk).all
    have k5 := kset w4 xb 1 (.int .i64 n2)
    obtain ⟨w5, hw5⟩ : ∃ w5, w4.setCell ⟨xb, 1, none⟩ (.int .i64 n2) = w5 := ⟨_, rfl⟩
    rw [hw5] at x4 k5
    have t5' := t4'.keep k5 hbx
    have K5 := Keeps.two K3 k4 k5 (by omega) HXB.out
    have z0 := cell_of (v := .int .i64 12) x4 0 rfl
    clear q2 x2 k4 k5 t3' t4' K3
    rw [htf] at t5'
    simp only [zero] at x4
    obtain ⟨g0, g1, g2, g3, g4, g5, g6⟩ := x4.free
    obtain ⟨h0, h1, h2, h3, h4, h5, h6⟩ := x4.all
    have sh := cell_of (v := .bool tf.short) t5' 1 rfl
    by_cases hsf : tf.short = true
    · rw [hsf] at sh
      have hts : ts = ((zero, false), tf) := by have := HTS.out; rw [if_pos hsf] at this; exact this
      have xz := x4.store zero
      have kz := ksets w5 xb zero
      obtain ⟨wz, hwz⟩ : ∃ wz, (((((((w5.setCell ⟨xb, 0, none⟩ (.int .i64 0)).setCell ⟨xb, 1, none⟩ (.int .i64 0)).setCell ⟨xb, 2, none⟩ (.int .i64 0)).setCell ⟨xb, 3, none⟩ (.int .i64 0)).setCell ⟨xb, 4, none⟩ (.int .u64 0)).setCell ⟨xb, 5, none⟩ (.string ⟨#[]⟩)).setCell ⟨xb, 6, none⟩ (.int .i64 0)) = wz := ⟨_, rfl⟩
      have hwz' : stored w5 xb zero = wz := hwz
      rw [hwz'] at xz kz
      have tz := (t5').keep kz hbx
      have Kz : Keeps (fun x => x = b) w wz := K5.trans' kz (fun x e hl => by have := HXB.out; omega)
      obtain ⟨y0, y1, y2, y3, y4, y5, y6⟩ := xz.all
      have HF := Hid.of (And.intro tz Kz)
      have HY := Hid.of (And.intro y0 (And.intro y1 (And.intro y2 (And.intro y3 (And.intro y4 (And.intro y5 y6))))))
      subst hts
      clear HTS xz kz tz Kz hwz' y0 y1 y2 y3 y4 y5 y6 hsf
      go_wp2
      go_step3
      go_wp2
      obtain ⟨y0, y1, y2, y3, y4, y5, y6⟩ := HY.out
      try simp only [Exit.jump, Exit.inBlock, Exit.then]
      refine bodyPost_ret (v := .tuple #[Stp.val zero, .bool false]) ?_ ?_ ?_
      · simp [results, Try.results63, go_sem, y0, y1, y2, y3, y4, y5, y6, Stp.val]
      · rfl
      · exact ⟨rfl, HF.out⟩
    · have hsf' : tf.short = false := by simpa using hsf
      rw [hsf'] at sh
      have hts : ts = ((⟨12, n2, 0, 0, 0, [], 0⟩, true), tf) := by have := HTS.out; rw [if_neg hsf] at this; exact this
      have xz := x4.store ⟨12, n2, 0, 0, 0, [], 0⟩
      have kz := ksets w5 xb ⟨12, n2, 0, 0, 0, [], 0⟩
      obtain ⟨wz, hwz⟩ : ∃ wz, (((((((w5.setCell ⟨xb, 0, none⟩ (.int .i64 12)).setCell ⟨xb, 1, none⟩ (.int .i64 n2)).setCell ⟨xb, 2, none⟩ (.int .i64 0)).setCell ⟨xb, 3, none⟩ (.int .i64 0)).setCell ⟨xb, 4, none⟩ (.int .u64 0)).setCell ⟨xb, 5, none⟩ (.string (bs []))).setCell ⟨xb, 6, none⟩ (.int .i64 0)) = wz := ⟨_, rfl⟩
      have hwz' : stored w5 xb ⟨12, n2, 0, 0, 0, [], 0⟩ = wz := hwz
      rw [hwz'] at xz kz
      have tz := (t5').keep kz hbx
      have Kz : Keeps (fun x => x = b) w wz := K5.trans' kz (fun x e hl => by have := HXB.out; omega)
      obtain ⟨y0, y1, y2, y3, y4, y5, y6⟩ := xz.all
      have HF := Hid.of (And.intro tz Kz)
      have HY := Hid.of (And.intro y0 (And.intro y1 (And.intro y2 (And.intro y3 (And.intro y4 (And.intro y5 y6))))))
      subst hts
      clear HTS xz kz tz Kz hwz' y0 y1 y2 y3 y4 y5 y6 hsf hsf'
      go_wp2
      obtain ⟨y0, y1, y2, y3, y4, y5, y6⟩ := HY.out
      try simp only [Exit.jump, Exit.inBlock, Exit.then]
      refine bodyPost_ret (v := .tuple #[Stp.val ⟨12, n2, 0, 0, 0, [], 0⟩, .bool true]) ?_ ?_ ?_
      · simp [results, Try.results63, go_sem, y0, y1, y2, y3, y4, y5, y6, Stp.val]
      · rfl
      · exact ⟨rfl, HF.out⟩
  · have c0 := cell_of (v := .string (bs t.rest)) ht 0 rfl
    have hie : List.isEmpty t.rest = false := by cases hr : t.rest with
      | nil => exact absurd hr h
      | cons a l => rfl
    generalize tstep t = ts at *
    generalize hn1 : (tone t).1 = n1 at *
    generalize ht1 : (tone t).2 = t1 at *
    generalize hn2 : (tone t1).1 = n2 at *
    generalize ht2 : (tone t1).2 = t2 at *
    clear hn1 ht1 hn2 ht2
    have e1 : tail1 13 t2 = ((0, 0), t2) := rfl
    rw [e1] at HT
    simp only [] at HT
    have e2 : tail2 13 t2 = ((0, 0, []), t2) := rfl
    rw [e2] at HT
    simp only [] at HT
    obtain ⟨tf, htf⟩ : ∃ tf, t2 = tf := ⟨_, rfl⟩
    rw [htf] at HT
    have HTS := Hid.of HT
    clear HT h l1 l2 e1 e2
    have hxb : b < w.heap.size := lt_of ht
    obtain ⟨w1, hw1⟩ : ∃ w1, w.alloc (.cells #[.int .i64 0, .int .i64 0, .int .i64 0, .int .i64 0, .int .u64 0, .string ⟨#[]⟩, .int .i64 0] 108) = w1 := ⟨_, rfl⟩
    have x1 : XAt w1 w.heap.size zero := by rw [← hw1]; exact alloc_new _ _
    have K1 : Keeps (fun x => x = b) w w1 := by rw [← hw1]; exact (Keeps.refl _ _).alloc _
    have t1' : TAt w1 b t := by rw [← hw1]; exact alloc_old ht _
    have c01 := cell_of (v := .string (bs t.rest)) t1' 0 rfl
    go_enter Try.func63, Try.ntmps63
    go_wp2
    refine wp_scope_fwd 0 rfl ?_
    obtain ⟨xb, hxe⟩ : ∃ xb, w.heap.size = xb := ⟨_, rfl⟩
    rw [hxe] at x1 hxb
    have HXB := Hid.of hxe
    have hbx : b ≠ xb := by omega
    have hxk : ¬ xb = b := by omega
    clear hw1 c0 ht
    go_wp2_with fail
    refine (q1 w1 t1').mono ?_
    rintro e w2 ⟨rfl, t2', k2⟩
    have x2 := (x1.keep k2 hxk).set_kind 13
    have k3 := kset w2 xb 0 (.int .i64 13)
    obtain ⟨w3, hw3⟩ : ∃ w3, w2.setCell ⟨xb, 0, none⟩ (.int .i64 13) = w3 := ⟨_, rfl⟩
    have ff := (x1.keep k2 hxk).free
    obtain ⟨f0, f1, f2, f3, f4, f5, f6⟩ := ff
    have aa := (x1.keep k2 hxk).all
    obtain ⟨a0, a1, a2, a3, a4, a5, a6⟩ := aa
    rw [hw3] at x2 k3
    have t3' := t2'.keep k3 hbx
    have K3 := Keeps.two K1 k2 k3 (by omega) HXB.out
    clear q1 x1 k2 k3 t1' t2' c01 K1
    go_wp2_with fail
    refine (q2 w3 t3').mono ?_
    rintro e w4 ⟨rfl, t4', k4⟩
    clear f0 f1 f2 f3 f4 f5 f6 a0 a1 a2 a3 a4 a5 a6 hw3
    have x4 := (x2.keep k4 hxk).set_tenant n2
    obtain ⟨f0, f1, f2, f3, f4, f5, f6⟩ := (x2.keep k4 hxk).free
    obtain ⟨a0, a1, a2, a3, a4, a5, a6⟩ := (x2.keep k4 hxk).all
    have k5 := kset w4 xb 1 (.int .i64 n2)
    obtain ⟨w5, hw5⟩ : ∃ w5, w4.setCell ⟨xb, 1, none⟩ (.int .i64 n2) = w5 := ⟨_, rfl⟩
    rw [hw5] at x4 k5
    have t5' := t4'.keep k5 hbx
    have K5 := Keeps.two K3 k4 k5 (by omega) HXB.out
    have z0 := cell_of (v := .int .i64 13) x4 0 rfl
    clear q2 x2 k4 k5 t3' t4' K3
    rw [htf] at t5'
    simp only [zero] at x4
    obtain ⟨g0, g1, g2, g3, g4, g5, g6⟩ := x4.free
    obtain ⟨h0, h1, h2, h3, h4, h5, h6⟩ := x4.all
    have sh := cell_of (v := .bool tf.short) t5' 1 rfl
    by_cases hsf : tf.short = true
    · rw [hsf] at sh
      have hts : ts = ((zero, false), tf) := by have := HTS.out; rw [if_pos hsf] at this; exact this
      have xz := x4.store zero
      have kz := ksets w5 xb zero
      obtain ⟨wz, hwz⟩ : ∃ wz, (((((((w5.setCell ⟨xb, 0, none⟩ (.int .i64 0)).setCell ⟨xb, 1, none⟩ (.int .i64 0)).setCell ⟨xb, 2, none⟩ (.int .i64 0)).setCell ⟨xb, 3, none⟩ (.int .i64 0)).setCell ⟨xb, 4, none⟩ (.int .u64 0)).setCell ⟨xb, 5, none⟩ (.string ⟨#[]⟩)).setCell ⟨xb, 6, none⟩ (.int .i64 0)) = wz := ⟨_, rfl⟩
      have hwz' : stored w5 xb zero = wz := hwz
      rw [hwz'] at xz kz
      have tz := (t5').keep kz hbx
      have Kz : Keeps (fun x => x = b) w wz := K5.trans' kz (fun x e hl => by have := HXB.out; omega)
      obtain ⟨y0, y1, y2, y3, y4, y5, y6⟩ := xz.all
      have HF := Hid.of (And.intro tz Kz)
      have HY := Hid.of (And.intro y0 (And.intro y1 (And.intro y2 (And.intro y3 (And.intro y4 (And.intro y5 y6))))))
      subst hts
      clear HTS xz kz tz Kz hwz' y0 y1 y2 y3 y4 y5 y6 hsf
      go_wp2
      go_step3
      go_wp2
      obtain ⟨y0, y1, y2, y3, y4, y5, y6⟩ := HY.out
      try simp only [Exit.jump, Exit.inBlock, Exit.then]
      refine bodyPost_ret (v := .tuple #[Stp.val zero, .bool false]) ?_ ?_ ?_
      · simp [results, Try.results63, go_sem, y0, y1, y2, y3, y4, y5, y6, Stp.val]
      · rfl
      · exact ⟨rfl, HF.out⟩
    · have hsf' : tf.short = false := by simpa using hsf
      rw [hsf'] at sh
      have hts : ts = ((⟨13, n2, 0, 0, 0, [], 0⟩, true), tf) := by have := HTS.out; rw [if_neg hsf] at this; exact this
      have xz := x4.store ⟨13, n2, 0, 0, 0, [], 0⟩
      have kz := ksets w5 xb ⟨13, n2, 0, 0, 0, [], 0⟩
      obtain ⟨wz, hwz⟩ : ∃ wz, (((((((w5.setCell ⟨xb, 0, none⟩ (.int .i64 13)).setCell ⟨xb, 1, none⟩ (.int .i64 n2)).setCell ⟨xb, 2, none⟩ (.int .i64 0)).setCell ⟨xb, 3, none⟩ (.int .i64 0)).setCell ⟨xb, 4, none⟩ (.int .u64 0)).setCell ⟨xb, 5, none⟩ (.string (bs []))).setCell ⟨xb, 6, none⟩ (.int .i64 0)) = wz := ⟨_, rfl⟩
      have hwz' : stored w5 xb ⟨13, n2, 0, 0, 0, [], 0⟩ = wz := hwz
      rw [hwz'] at xz kz
      have tz := (t5').keep kz hbx
      have Kz : Keeps (fun x => x = b) w wz := K5.trans' kz (fun x e hl => by have := HXB.out; omega)
      obtain ⟨y0, y1, y2, y3, y4, y5, y6⟩ := xz.all
      have HF := Hid.of (And.intro tz Kz)
      have HY := Hid.of (And.intro y0 (And.intro y1 (And.intro y2 (And.intro y3 (And.intro y4 (And.intro y5 y6))))))
      subst hts
      clear HTS xz kz tz Kz hwz' y0 y1 y2 y3 y4 y5 y6 hsf hsf'
      go_wp2
      obtain ⟨y0, y1, y2, y3, y4, y5, y6⟩ := HY.out
      try simp only [Exit.jump, Exit.inBlock, Exit.then]
      refine bodyPost_ret (v := .tuple #[Stp.val ⟨13, n2, 0, 0, 0, [], 0⟩, .bool true]) ?_ ?_ ?_
      · simp [results, Try.results63, go_sem, y0, y1, y2, y3, y4, y5, y6, Stp.val]
      · rfl
      · exact ⟨rfl, HF.out⟩
  · have c0 := cell_of (v := .string (bs t.rest)) ht 0 rfl
    have hie : List.isEmpty t.rest = false := by cases hr : t.rest with
      | nil => exact absurd hr h
      | cons a l => rfl
    generalize tstep t = ts at *
    generalize hn1 : (tone t).1 = n1 at *
    generalize ht1 : (tone t).2 = t1 at *
    generalize hn2 : (tone t1).1 = n2 at *
    generalize ht2 : (tone t1).2 = t2 at *
    clear hn1 ht1 hn2 ht2
    have e1 : tail1 14 t2 = ((0, 0), t2) := rfl
    rw [e1] at HT
    simp only [] at HT
    have e2 : tail2 14 t2 = ((0, 0, []), t2) := rfl
    rw [e2] at HT
    simp only [] at HT
    obtain ⟨tf, htf⟩ : ∃ tf, t2 = tf := ⟨_, rfl⟩
    rw [htf] at HT
    have HTS := Hid.of HT
    clear HT h l1 l2 e1 e2
    have hxb : b < w.heap.size := lt_of ht
    obtain ⟨w1, hw1⟩ : ∃ w1, w.alloc (.cells #[.int .i64 0, .int .i64 0, .int .i64 0, .int .i64 0, .int .u64 0, .string ⟨#[]⟩, .int .i64 0] 108) = w1 := ⟨_, rfl⟩
    have x1 : XAt w1 w.heap.size zero := by rw [← hw1]; exact alloc_new _ _
    have K1 : Keeps (fun x => x = b) w w1 := by rw [← hw1]; exact (Keeps.refl _ _).alloc _
    have t1' : TAt w1 b t := by rw [← hw1]; exact alloc_old ht _
    have c01 := cell_of (v := .string (bs t.rest)) t1' 0 rfl
    go_enter Try.func63, Try.ntmps63
    go_wp2
    refine wp_scope_fwd 0 rfl ?_
    obtain ⟨xb, hxe⟩ : ∃ xb, w.heap.size = xb := ⟨_, rfl⟩
    rw [hxe] at x1 hxb
    have HXB := Hid.of hxe
    have hbx : b ≠ xb := by omega
    have hxk : ¬ xb = b := by omega
    clear hw1 c0 ht
    go_wp2_with fail
    refine (q1 w1 t1').mono ?_
    rintro e w2 ⟨rfl, t2', k2⟩
    have x2 := (x1.keep k2 hxk).set_kind 14
    have k3 := kset w2 xb 0 (.int .i64 14)
    obtain ⟨w3, hw3⟩ : ∃ w3, w2.setCell ⟨xb, 0, none⟩ (.int .i64 14) = w3 := ⟨_, rfl⟩
    have ff := (x1.keep k2 hxk).free
    obtain ⟨f0, f1, f2, f3, f4, f5, f6⟩ := ff
    have aa := (x1.keep k2 hxk).all
    obtain ⟨a0, a1, a2, a3, a4, a5, a6⟩ := aa
    rw [hw3] at x2 k3
    have t3' := t2'.keep k3 hbx
    have K3 := Keeps.two K1 k2 k3 (by omega) HXB.out
    clear q1 x1 k2 k3 t1' t2' c01 K1
    go_wp2_with fail
    refine (q2 w3 t3').mono ?_
    rintro e w4 ⟨rfl, t4', k4⟩
    clear f0 f1 f2 f3 f4 f5 f6 a0 a1 a2 a3 a4 a5 a6 hw3
    have x4 := (x2.keep k4 hxk).set_tenant n2
    obtain ⟨f0, f1, f2, f3, f4, f5, f6⟩ := (x2.keep k4 hxk).free
    obtain ⟨a0, a1, a2, a3, a4, a5, a6⟩ := (x2.keep k4 hxk).all
    have k5 := kset w4 xb 1 (.int .i64 n2)
    obtain ⟨w5, hw5⟩ : ∃ w5, w4.setCell ⟨xb, 1, none⟩ (.int .i64 n2) = w5 := ⟨_, rfl⟩
    rw [hw5] at x4 k5
    have t5' := t4'.keep k5 hbx
    have K5 := Keeps.two K3 k4 k5 (by omega) HXB.out
    have z0 := cell_of (v := .int .i64 14) x4 0 rfl
    clear q2 x2 k4 k5 t3' t4' K3
    rw [htf] at t5'
    simp only [zero] at x4
    obtain ⟨g0, g1, g2, g3, g4, g5, g6⟩ := x4.free
    obtain ⟨h0, h1, h2, h3, h4, h5, h6⟩ := x4.all
    have sh := cell_of (v := .bool tf.short) t5' 1 rfl
    by_cases hsf : tf.short = true
    · rw [hsf] at sh
      have hts : ts = ((zero, false), tf) := by have := HTS.out; rw [if_pos hsf] at this; exact this
      have xz := x4.store zero
      have kz := ksets w5 xb zero
      obtain ⟨wz, hwz⟩ : ∃ wz, (((((((w5.setCell ⟨xb, 0, none⟩ (.int .i64 0)).setCell ⟨xb, 1, none⟩ (.int .i64 0)).setCell ⟨xb, 2, none⟩ (.int .i64 0)).setCell ⟨xb, 3, none⟩ (.int .i64 0)).setCell ⟨xb, 4, none⟩ (.int .u64 0)).setCell ⟨xb, 5, none⟩ (.string ⟨#[]⟩)).setCell ⟨xb, 6, none⟩ (.int .i64 0)) = wz := ⟨_, rfl⟩
      have hwz' : stored w5 xb zero = wz := hwz
      rw [hwz'] at xz kz
      have tz := (t5').keep kz hbx
      have Kz : Keeps (fun x => x = b) w wz := K5.trans' kz (fun x e hl => by have := HXB.out; omega)
      obtain ⟨y0, y1, y2, y3, y4, y5, y6⟩ := xz.all
      have HF := Hid.of (And.intro tz Kz)
      have HY := Hid.of (And.intro y0 (And.intro y1 (And.intro y2 (And.intro y3 (And.intro y4 (And.intro y5 y6))))))
      subst hts
      clear HTS xz kz tz Kz hwz' y0 y1 y2 y3 y4 y5 y6 hsf
      go_wp2
      go_step3
      go_wp2
      obtain ⟨y0, y1, y2, y3, y4, y5, y6⟩ := HY.out
      try simp only [Exit.jump, Exit.inBlock, Exit.then]
      refine bodyPost_ret (v := .tuple #[Stp.val zero, .bool false]) ?_ ?_ ?_
      · simp [results, Try.results63, go_sem, y0, y1, y2, y3, y4, y5, y6, Stp.val]
      · rfl
      · exact ⟨rfl, HF.out⟩
    · have hsf' : tf.short = false := by simpa using hsf
      rw [hsf'] at sh
      have hts : ts = ((⟨14, n2, 0, 0, 0, [], 0⟩, true), tf) := by have := HTS.out; rw [if_neg hsf] at this; exact this
      have xz := x4.store ⟨14, n2, 0, 0, 0, [], 0⟩
      have kz := ksets w5 xb ⟨14, n2, 0, 0, 0, [], 0⟩
      obtain ⟨wz, hwz⟩ : ∃ wz, (((((((w5.setCell ⟨xb, 0, none⟩ (.int .i64 14)).setCell ⟨xb, 1, none⟩ (.int .i64 n2)).setCell ⟨xb, 2, none⟩ (.int .i64 0)).setCell ⟨xb, 3, none⟩ (.int .i64 0)).setCell ⟨xb, 4, none⟩ (.int .u64 0)).setCell ⟨xb, 5, none⟩ (.string (bs []))).setCell ⟨xb, 6, none⟩ (.int .i64 0)) = wz := ⟨_, rfl⟩
      have hwz' : stored w5 xb ⟨14, n2, 0, 0, 0, [], 0⟩ = wz := hwz
      rw [hwz'] at xz kz
      have tz := (t5').keep kz hbx
      have Kz : Keeps (fun x => x = b) w wz := K5.trans' kz (fun x e hl => by have := HXB.out; omega)
      obtain ⟨y0, y1, y2, y3, y4, y5, y6⟩ := xz.all
      have HF := Hid.of (And.intro tz Kz)
      have HY := Hid.of (And.intro y0 (And.intro y1 (And.intro y2 (And.intro y3 (And.intro y4 (And.intro y5 y6))))))
      subst hts
      clear HTS xz kz tz Kz hwz' y0 y1 y2 y3 y4 y5 y6 hsf hsf'
      go_wp2
      obtain ⟨y0, y1, y2, y3, y4, y5, y6⟩ := HY.out
      try simp only [Exit.jump, Exit.inBlock, Exit.then]
      refine bodyPost_ret (v := .tuple #[Stp.val ⟨14, n2, 0, 0, 0, [], 0⟩, .bool true]) ?_ ?_ ?_
      · simp [results, Try.results63, go_sem, y0, y1, y2, y3, y4, y5, y6, Stp.val]
      · rfl
      · exact ⟨rfl, HF.out⟩
  · have c0 := cell_of (v := .string (bs t.rest)) ht 0 rfl
    have hie : List.isEmpty t.rest = false := by cases hr : t.rest with
      | nil => exact absurd hr h
      | cons a l => rfl
    generalize tstep t = ts at *
    generalize hn1 : (tone t).1 = n1 at *
    generalize ht1 : (tone t).2 = t1 at *
    generalize hn2 : (tone t1).1 = n2 at *
    generalize ht2 : (tone t1).2 = t2 at *
    clear hn1 ht1 hn2 ht2
    have e1 : tail1 15 t2 = ((0, 0), t2) := rfl
    rw [e1] at HT
    simp only [] at HT
    have e2 : tail2 15 t2 = ((0, 0, []), t2) := rfl
    rw [e2] at HT
    simp only [] at HT
    obtain ⟨tf, htf⟩ : ∃ tf, t2 = tf := ⟨_, rfl⟩
    rw [htf] at HT
    have HTS := Hid.of HT
    clear HT h l1 l2 e1 e2
    have hxb : b < w.heap.size := lt_of ht
    obtain ⟨w1, hw1⟩ : ∃ w1, w.alloc (.cells #[.int .i64 0, .int .i64 0, .int .i64 0, .int .i64 0, .int .u64 0, .string ⟨#[]⟩, .int .i64 0] 108) = w1 := ⟨_, rfl⟩
    have x1 : XAt w1 w.heap.size zero := by rw [← hw1]; exact alloc_new _ _
    have K1 : Keeps (fun x => x = b) w w1 := by rw [← hw1]; exact (Keeps.refl _ _).alloc _
    have t1' : TAt w1 b t := by rw [← hw1]; exact alloc_old ht _
    have c01 := cell_of (v := .string (bs t.rest)) t1' 0 rfl
    go_enter Try.func63, Try.ntmps63
    go_wp2
    refine wp_scope_fwd 0 rfl ?_
    obtain ⟨xb, hxe⟩ : ∃ xb, w.heap.size = xb := ⟨_, rfl⟩
    rw [hxe] at x1 hxb
    have HXB := Hid.of hxe
    have hbx : b ≠ xb := by omega
    have hxk : ¬ xb = b := by omega
    clear hw1 c0 ht
    go_wp2_with fail
    refine (q1 w1 t1').mono ?_
    rintro e w2 ⟨rfl, t2', k2⟩
    have x2 := (x1.keep k2 hxk).set_kind 15
    have k3 := kset w2 xb 0 (.int .i64 15)
    obtain ⟨w3, hw3⟩ : ∃ w3, w2.setCell ⟨xb, 0, none⟩ (.int .i64 15) = w3 := ⟨_, rfl⟩
    have ff := (x1.keep k2 hxk).free
    obtain ⟨f0, f1, f2, f3, f4, f5, f6⟩ := ff
    have aa := (x1.keep k2 hxk).all
    obtain ⟨a0, a1, a2, a3, a4, a5, a6⟩ := aa
    rw [hw3] at x2 k3
    have t3' := t2'.keep k3 hbx
    have K3 := Keeps.two K1 k2 k3 (by omega) HXB.out
    clear q1 x1 k2 k3 t1' t2' c01 K1
    go_wp2_with fail
    refine (q2 w3 t3').mono ?_
    rintro e w4 ⟨rfl, t4', k4⟩
    clear f0 f1 f2 f3 f4 f5 f6 a0 a1 a2 a3 a4 a5 a6 hw3
    have x4 := (x2.keep k4 hxk).set_tenant n2
    obtain ⟨f0, f1, f2, f3, f4, f5, f6⟩ := (x2.keep k4 hxk).free
    obtain ⟨a0, a1, a2, a3, a4, a5, a6⟩ := (x2.keep k4 hxk).all
    have k5 := kset w4 xb 1 (.int .i64 n2)
    obtain ⟨w5, hw5⟩ : ∃ w5, w4.setCell ⟨xb, 1, none⟩ (.int .i64 n2) = w5 := ⟨_, rfl⟩
    rw [hw5] at x4 k5
    have t5' := t4'.keep k5 hbx
    have K5 := Keeps.two K3 k4 k5 (by omega) HXB.out
    have z0 := cell_of (v := .int .i64 15) x4 0 rfl
    clear q2 x2 k4 k5 t3' t4' K3
    rw [htf] at t5'
    simp only [zero] at x4
    obtain ⟨g0, g1, g2, g3, g4, g5, g6⟩ := x4.free
    obtain ⟨h0, h1, h2, h3, h4, h5, h6⟩ := x4.all
    have sh := cell_of (v := .bool tf.short) t5' 1 rfl
    by_cases hsf : tf.short = true
    · rw [hsf] at sh
      have hts : ts = ((zero, false), tf) := by have := HTS.out; rw [if_pos hsf] at this; exact this
      have xz := x4.store zero
      have kz := ksets w5 xb zero
      obtain ⟨wz, hwz⟩ : ∃ wz, (((((((w5.setCell ⟨xb, 0, none⟩ (.int .i64 0)).setCell ⟨xb, 1, none⟩ (.int .i64 0)).setCell ⟨xb, 2, none⟩ (.int .i64 0)).setCell ⟨xb, 3, none⟩ (.int .i64 0)).setCell ⟨xb, 4, none⟩ (.int .u64 0)).setCell ⟨xb, 5, none⟩ (.string ⟨#[]⟩)).setCell ⟨xb, 6, none⟩ (.int .i64 0)) = wz := ⟨_, rfl⟩
      have hwz' : stored w5 xb zero = wz := hwz
      rw [hwz'] at xz kz
      have tz := (t5').keep kz hbx
      have Kz : Keeps (fun x => x = b) w wz := K5.trans' kz (fun x e hl => by have := HXB.out; omega)
      obtain ⟨y0, y1, y2, y3, y4, y5, y6⟩ := xz.all
      have HF := Hid.of (And.intro tz Kz)
      have HY := Hid.of (And.intro y0 (And.intro y1 (And.intro y2 (And.intro y3 (And.intro y4 (And.intro y5 y6))))))
      subst hts
      clear HTS xz kz tz Kz hwz' y0 y1 y2 y3 y4 y5 y6 hsf
      go_wp2
      go_step3
      go_wp2
      obtain ⟨y0, y1, y2, y3, y4, y5, y6⟩ := HY.out
      try simp only [Exit.jump, Exit.inBlock, Exit.then]
      refine bodyPost_ret (v := .tuple #[Stp.val zero, .bool false]) ?_ ?_ ?_
      · simp [results, Try.results63, go_sem, y0, y1, y2, y3, y4, y5, y6, Stp.val]
      · rfl
      · exact ⟨rfl, HF.out⟩
    · have hsf' : tf.short = false := by simpa using hsf
      rw [hsf'] at sh
      have hts : ts = ((⟨15, n2, 0, 0, 0, [], 0⟩, true), tf) := by have := HTS.out; rw [if_neg hsf] at this; exact this
      have xz := x4.store ⟨15, n2, 0, 0, 0, [], 0⟩
      have kz := ksets w5 xb ⟨15, n2, 0, 0, 0, [], 0⟩
      obtain ⟨wz, hwz⟩ : ∃ wz, (((((((w5.setCell ⟨xb, 0, none⟩ (.int .i64 15)).setCell ⟨xb, 1, none⟩ (.int .i64 n2)).setCell ⟨xb, 2, none⟩ (.int .i64 0)).setCell ⟨xb, 3, none⟩ (.int .i64 0)).setCell ⟨xb, 4, none⟩ (.int .u64 0)).setCell ⟨xb, 5, none⟩ (.string (bs []))).setCell ⟨xb, 6, none⟩ (.int .i64 0)) = wz := ⟨_, rfl⟩
      have hwz' : stored w5 xb ⟨15, n2, 0, 0, 0, [], 0⟩ = wz := hwz
      rw [hwz'] at xz kz
      have tz := (t5').keep kz hbx
      have Kz : Keeps (fun x => x = b) w wz := K5.trans' kz (fun x e hl => by have := HXB.out; omega)
      obtain ⟨y0, y1, y2, y3, y4, y5, y6⟩ := xz.all
      have HF := Hid.of (And.intro tz Kz)
      have HY := Hid.of (And.intro y0 (And.intro y1 (And.intro y2 (And.intro y3 (And.intro y4 (And.intro y5 y6))))))
      subst hts
      clear HTS xz kz tz Kz hwz' y0 y1 y2 y3 y4 y5 y6 hsf hsf'
      go_wp2
      obtain ⟨y0, y1, y2, y3, y4, y5, y6⟩ := HY.out
      try simp only [Exit.jump, Exit.inBlock, Exit.then]
      refine bodyPost_ret (v := .tuple #[Stp.val ⟨15, n2, 0, 0, 0, [], 0⟩, .bool true]) ?_ ?_ ?_
      · simp [results, Try.results63, go_sem, y0, y1, y2, y3, y4, y5, y6, Stp.val]
      · rfl
      · exact ⟨rfl, HF.out⟩
set_option maxRecDepth 100000 in
set_option maxHeartbeats 600000 in
theorem step_none (w : World) (b : Nat) (t : Tp) (ht : TAt w b t) (h : t.rest = []) :
    Calls Try.prog 63 #[.pointer (some ⟨b, 0, none⟩)] w fun e w' => e = .returned (.tuple #[(tstep t).1.1.val, .bool (tstep t).1.2]) ∧ TAt w' b (tstep t).2 ∧ Keeps (fun x => x = b) w w' := by
  have e : tstep t = ((zero, false), t) := by unfold tstep; rw [if_pos h]
  rw [e]
  have hxb : b < w.heap.size := lt_of ht
  obtain ⟨w1, hw1⟩ : ∃ w1, w.alloc (.cells #[.int .i64 0, .int .i64 0, .int .i64 0, .int .i64 0, .int .u64 0, .string ⟨#[]⟩, .int .i64 0] 108) = w1 := ⟨_, rfl⟩
  have x9 : XAt w1 w.heap.size zero := by rw [← hw1]; exact alloc_new _ _
  have K9 : Keeps (fun x => x = b) w w1 := by rw [← hw1]; exact (Keeps.refl _ _).alloc _
  have t9' : TAt w1 b t := by rw [← hw1]; exact alloc_old ht _
  have c01 := cell_of (v := .string (bs t.rest)) t9' 0 rfl
  rw [h] at c01
  clear e
  go_enter Try.func63, Try.ntmps63
  go_wp2
  refine wp_scope_fwd 0 rfl ?_
  obtain ⟨xb, hxe⟩ : ∃ xb, w.heap.size = xb := ⟨_, rfl⟩
  rw [hxe] at x9 hxb
  have HXB := Hid.of hxe
  have hbx : b ≠ xb := by omega
  simp only [zero] at x9
  obtain ⟨g0, g1, g2, g3, g4, g5, g6⟩ := x9.free
  obtain ⟨h0, h1, h2, h3, h4, h5, h6⟩ := x9.all
  have xz := x9.store zero
  have kz := ksets w1 xb zero
  obtain ⟨wz, hwz⟩ : ∃ wz, (((((((w1.setCell ⟨xb, 0, none⟩ (.int .i64 0)).setCell ⟨xb, 1, none⟩ (.int .i64 0)).setCell ⟨xb, 2, none⟩ (.int .i64 0)).setCell ⟨xb, 3, none⟩ (.int .i64 0)).setCell ⟨xb, 4, none⟩ (.int .u64 0)).setCell ⟨xb, 5, none⟩ (.string ⟨#[]⟩)).setCell ⟨xb, 6, none⟩ (.int .i64 0)) = wz := ⟨_, rfl⟩
  have hwz' : stored w1 xb zero = wz := hwz
  rw [hwz'] at xz kz
  have tz := t9'.keep kz hbx
  have Kz : Keeps (fun x => x = b) w wz := K9.trans' kz (fun x e hl => by have := HXB.out; omega)
  obtain ⟨y0, y1, y2, y3, y4, y5, y6⟩ := xz.all
  have HF := Hid.of (And.intro tz Kz)
  have HY := Hid.of (And.intro y0 (And.intro y1 (And.intro y2 (And.intro y3 (And.intro y4 (And.intro y5 y6))))))
  clear xz kz tz Kz hwz' y0 y1 y2 y3 y4 y5 y6 hw1 h ht t9' K9 x9
  go_wp2
  go_step3
  simp only [Exit.then, Exit.inBlock, Exit.jump]
  refine ⟨rfl, ?_⟩
  go_wp2
  obtain ⟨y0, y1, y2, y3, y4, y5, y6⟩ := HY.out
  try simp only [Exit.jump, Exit.inBlock, Exit.then]
  refine bodyPost_ret (v := .tuple #[Stp.val zero, .bool false]) ?_ ?_ ?_
  · simp [results, Try.results63, go_sem, y0, y1, y2, y3, y4, y5, y6, Stp.val]
  · rfl
  · exact ⟨rfl, HF.out⟩
theorem step_any (w : World) (b : Nat) (t : Tp) (ht : TAt w b t) (hl : t.rest.length ≤ 1000000) :
    Calls Try.prog 63 #[.pointer (some ⟨b, 0, none⟩)] w fun e w' => e = .returned (.tuple #[(tstep t).1.1.val, .bool (tstep t).1.2]) ∧ TAt w' b (tstep t).2 ∧ Keeps (fun x => x = b) w w' := by
  by_cases h : t.rest = []
  · exact step_none w b t ht h
  · obtain ⟨k, hk⟩ : ∃ k, (tone t).1 % 16 = k := ⟨_, rfl⟩
    rcases kind_cases k (by omega) (by omega) with e | e | e | e | e | e | e | e | e | e | e | e | e | e | e | e
    · exact step_o w b t k (by omega) ht h hl hk
    · exact step_nm w b t k (by omega) ht h hl hk
    · exact step_nm w b t k (by omega) ht h hl hk
    · exact step_o w b t k (by omega) ht h hl hk
    · exact step_n w b t k (by omega) ht h hl hk
    · exact step_nm w b t k (by omega) ht h hl hk
    · exact step_h w b t k (by omega) ht h hl hk
    · exact step_hn w b t k (by omega) ht h hl hk
    · exact step_h w b t k (by omega) ht h hl hk
    · exact step_hnm w b t k (by omega) ht h hl hk
    · exact step_ht w b t k (by omega) ht h hl hk
    · exact step_hn w b t k (by omega) ht h hl hk
    · exact step_o w b t k (by omega) ht h hl hk
    · exact step_o w b t k (by omega) ht h hl hk
    · exact step_o w b t k (by omega) ht h hl hk
    · exact step_o w b t k (by omega) ht h hl hk
end Scr
end Go.Proofs.Ytmlolkjgniodpaa
