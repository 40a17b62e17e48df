/- LinePlays' walk. -/
import Derived.Test.YtmlolkjgniodpaaLineH
set_option linter.unusedVariables false
set_option linter.unusedSimpArgs false
namespace Go.Proofs.Ytmlolkjgniodpaa
open Go.RowKit Go.ChangeMaps
namespace Line
theorem bneI (x : Int) : (x != x) = false := by simp
theorem bneB (x : Bool) : (x != x) = false := by simp

set_option maxRecDepth 100000 in
set_option maxHeartbeats 8000000 in
theorem plays_any (w : World) (A : Option Addr) (cap : Nat) (xs : List LOp) (ha : Rd w A (xs.flatMap LOp.enc)) (hx : xs.length ≤ maxLen) :
    Calls Try.prog 7 #[.slice A xs.length cap] w fun e w' => e = .returned (.bool true) ∧ Below w.heap.size w w' := by
  unfold maxLen at hx
  by_cases hb : xs.length ≤ 500
  · have hb' : decide ((xs.length : Int) > 500) = false := by simp; omega
    go_enter Try.func7, Try.ntmps7
    go_wp2_with fail
    refine (awake_any w).mono ?_
    rintro e w1 ⟨rfl, k1⟩
    go_wp2_with fail
    refine (rep_new w1).mono ?_
    rintro e w2 ⟨rfl, r2, k2⟩
    have hs1 := k1.size
    have hs2 := k2.size
    have hlt2 := r2.lt
    obtain ⟨w3, hw3⟩ : ∃ w3, w2.alloc (.cells #[.slice none 0 0] 65) = w3 := ⟨_, rfl⟩
    have k3 : Keeps (fun _ => False) w w3 := by rw [← hw3]; exact (k1.trans k2).alloc _
    have B3 : Both w.heap.size w3 (w1.heap.size + 1) w1.heap.size w2.heap.size (.slice none 0 0) [] := by
      rw [← hw3]
      exact ⟨r2.keep ((Keeps.refl (fun _ => False) w2).alloc _) (fun x => x) (fun x => x), ⟨alloc_new _ _, Own.nil _ _ _, by simp [Value.ownBlock]⟩, by omega, by omega, by omega, by omega, by omega, by simp [Value.ownBlock]⟩
    have hs3 : w2.heap.size < w3.heap.size := by rw [← hw3]; simp
    generalize hrb : w2.heap.size = rb at *
    go_wp2_with fail
    go_loopw [3, 23] (fun p i wr => ∃ (j b m : Nat) (v : Value) (L : List Int), j ≤ xs.length ∧ i = .int .i64 j ∧ p = .pointer (some ⟨b, 0, none⟩) ∧ Both w.heap.size wr b m rb v L ∧ L.length ≤ j ∧ Keeps (fun _ => False) w wr) (fun _ i _ => xs.length - (intOf i).toNat)
    case atStart => exact ⟨0, _, _, _, [], Nat.zero_le _, rfl, rfl, B3, by simp, k3⟩
    case round =>
      clear B3 k3 hw3 hrb hs3 hlt2 hs2 hs1 k1 k2 r2
      obtain ⟨j, b, m, v, L, hj, rfl, rfl, B, hLj, kp⟩ := hrel
      by_cases hlt : j < xs.length
      · obtain ⟨b1, o1, s1, kind, kk, rfl, hc1, hc2⟩ := op_cells (Rd.old ha kp) j hlt
        have hk1 : decide ((j : Int) < xs.length) = true := by simp; omega
        obtain ⟨w4, hw4⟩ : ∃ w4, wr.alloc (.cells #[.int .i64 kind, .int .i64 kk] 67) = w4 := ⟨_, rfl⟩
        have k4 : Keeps (fun _ => False) wr w4 := by rw [← hw4]; exact (Keeps.refl _ _).alloc _
        have hob : w4.heap[wr.heap.size]? = some (.cells #[.int .i64 kind, .int .i64 kk] 67 (0, 0)) := by rw [← hw4]; exact alloc_new _ _
        have hkp := kp.size
        obtain ⟨ob, hobe⟩ : ∃ ob, wr.heap.size = ob := ⟨_, rfl⟩
        rw [hobe] at hob
        have d0 := cell_of hob 0 rfl
        have d1 := cell_of hob 1 rfl
        have B4 := B.old k4
        have hobw : ob < w4.heap.size := lt_of hob
        have hob4 := hob
        have hobB : ob ≠ b ∧ ob ≠ m ∧ ob ≠ rb := by have := B.line.lt; have := lt_of B.ref.1; omega
        have hobN : ¬ (ob = rb ∨ v.ownBlock = some ob) := by
          rintro (e | e)
          · exact hobB.2.2 e
          · have := B.ref.2.1.lt e; omega
        by_cases hk1' : kind = 1
        · have e1 : (kind == 1) = true := by simpa using hk1'
          clear hk1'
          go_wp2
          have q := rep_push w4.drew b m L kk (by exact B4.line)
          obtain ⟨L', hL'⟩ : ∃ L', L' = pushL L kk := ⟨_, rfl⟩
          obtain ⟨ev, hev⟩ : ∃ ev, ev = pushE L kk := ⟨_, rfl⟩
          rw [← hL', ← hev] at q
          have q2 := fun (wx : World) (h : RLine.At wx rb v L) => RLine.push_any wx rb v L kk h (by omega)
          rw [← hL', ← hev] at q2
          have HL' := Hid.of hL'
          have hlen' : L'.length ≤ j + 1 := by rw [hL']; have := pushL_len L kk; omega
          clear hL' hev
          have n1 := bneI ev
          go_region_held3 (fun wx => wx.cell? ⟨ob, 1, none⟩ = some (.int .i64 kk))
            (first | go_keep)
            (first
              | (go_at_call 25; refine q.mono ?_; rintro e w5 ⟨rfl, r5, k5⟩; have l5 := (B4.left k5.of_drew r5).2; have hob5' := k5.of_drew.at hob4 (by omega); have s5' := cell_of hob5' 1 rfl)
              | (go_at_call 39; refine (q2 _ (by exact l5)).mono ?_; rintro e w6 ⟨rfl, h6, k6⟩; have hob6' := k6.at hob5' hobN; have s6' := cell_of hob6' 1 rfl))
          go_wp2
          obtain ⟨v5, B5, K56⟩ := both_mk B4 k5.of_drew r5 k6 h6 (by have := k4.size; omega)
          have K5 := (kp.trans k4).trans' K56 (fun x hx hl => by omega)
          have hob5 := hob6'
          obtain ⟨b', hb'e⟩ : ∃ b', b' = b := ⟨_, rfl⟩
          obtain ⟨m', hm'e⟩ : ∃ m', m' = m := ⟨_, rfl⟩
          rw [← hb'e, ← hm'e] at B5
          rw [← hb'e]
          generalize w6 = w5b at *
          clear hb'e hm'e
          clear q q2 k5 r5 l5 k6 h6 hob5' s5' s6' hob6' K56
          obtain ⟨A5, cap5, hv5, hcap5, hA5, rd5⟩ := B5.ref.2.1.rd
          subst hv5
          have s5 := cell_of hob5 1 rfl
          have t5 := cell_of B5.ref.1 0 rfl
          have n2 := bneI (hd L')
          have n3 := bneB (decide (kk ∈ L'))
          have n4 := bneI (L'.length : Int)
          go_region_held3 (fun wx => wx.cell? ⟨ob, 1, none⟩ = some (.int .i64 kk) ∧ wx.cell? ⟨rb, 0, none⟩ = some (.slice A5 L'.length cap5))
            (first | go_keep)
            (first
              | (go_at_call 26; refine (rep_front _ b' m' L' (by exact B5.line)).mono ?_; rintro e wx ⟨rfl, rfl⟩)
              | (go_at_call 42; refine (RLine.front_any _ rb _ L' (by exact B5.ref)).mono ?_; rintro e wx ⟨rfl, rfl⟩)
              | (go_at_call 28; refine (rep_has _ b' m' L' kk (by exact B5.line)).mono ?_; rintro e w6 ⟨rfl, k6⟩; have B6 := B5.old k6.of_drew; have hob6 := k6.of_drew.at hob5 (fun x => x); have s6 := cell_of hob6 1 rfl; have t6 := cell_of B6.ref.1 0 rfl)
              | (go_at_call 43; refine (RLine.has_any _ rb _ L' kk (by exact B6.ref)).mono ?_; rintro e w7 ⟨rfl, k7⟩; have B7 := B6.old k7; have hob7 := k7.at hob6 (fun x => x); have s7 := cell_of hob7 1 rfl; have t7 := cell_of B7.ref.1 0 rfl)
              | (go_at_call 30; refine (rep_all _ b' m' L' (by exact B7.line) (by omega)).mono ?_; rintro e w8 ⟨v8, rfl, o8, f8, k8⟩; obtain ⟨A8, cap8, rfl, hcap8, hA8, rd8⟩ := o8.rd; have B8 := B7.old k8; have hob8 := k8.at hob7 (fun x => x); have s8 := cell_of hob8 1 rfl; have t8 := cell_of B8.ref.1 0 rfl)
              | (go_at_call 31; refine (same_is _ A8 A5 cap8 cap5 L' L' L'.length L'.length true (by exact rd8) (by exact ((rd5.old k6.of_drew).old k7).old k8) rfl rfl (by omega) (by omega) (by simp)).mono ?_; rintro e w9 ⟨rfl, k9⟩; have B9 := B8.old k9; have hob9 := k9.at hob8 (fun x => x); have s9 := cell_of hob9 1 rfl; have t9 := cell_of B9.ref.1 0 rfl)
              | (go_at_call 29; refine (rep_len _ b' m' L' (by exact B9.line)).mono ?_; rintro e wx ⟨rfl, rfl⟩))
          go_wp2
          go_roundw
          case rel => exact ⟨j + 1, b', m', _, L', by omega, by go_num, rfl, B9, by omega, (((K5.trans k6.of_drew).trans k7).trans k8).trans k9⟩
          case measure => simp [intOf]; omega
        · have e1 : (kind == 1) = false := by simpa using hk1'
          clear hk1'
          by_cases hk2' : kind = 2
          · have e2 : (kind == 2) = true := by simpa using hk2'
            clear hk2'
            go_wp2
            have q := rep_remove w4.drew b m L kk (by exact B4.line)
            obtain ⟨L', hL'⟩ : ∃ L', L' = removeL L kk := ⟨_, rfl⟩
            obtain ⟨ev, hev⟩ : ∃ ev, ev = removeE L kk := ⟨_, rfl⟩
            rw [← hL', ← hev] at q
            have q2 := fun (wx : World) (h : RLine.At wx rb v L) => RLine.remove_any wx rb v L kk h (by omega)
            rw [← hL', ← hev] at q2
            have HL' := Hid.of hL'
            have hlen' : L'.length ≤ j + 1 := by rw [hL']; have := List.length_filter_le (fun x => !(x == kk)) L; unfold removeL; omega
            clear hL' hev
            have n1 := bneI ev
            go_region_held3 (fun wx => wx.cell? ⟨ob, 1, none⟩ = some (.int .i64 kk))
              (first | go_keep)
              (first
                | (go_at_call 27; refine q.mono ?_; rintro e w5 ⟨rfl, r5, k5⟩; have l5 := (B4.left k5.of_drew r5).2; have hob5' := k5.of_drew.at hob4 (by omega); have s5' := cell_of hob5' 1 rfl)
                | (go_at_call 40; refine (q2 _ (by exact l5)).mono ?_; rintro e w6 ⟨rfl, h6, k6⟩; have hob6' := k6.at hob5' hobN; have s6' := cell_of hob6' 1 rfl))
            go_wp2
            obtain ⟨v5, B5, K56⟩ := both_mk B4 k5.of_drew r5 k6 h6 (by have := k4.size; omega)
            have K5 := (kp.trans k4).trans' K56 (fun x hx hl => by omega)
            have hob5 := hob6'
            obtain ⟨b', hb'e⟩ : ∃ b', b' = b := ⟨_, rfl⟩
            obtain ⟨m', hm'e⟩ : ∃ m', m' = m := ⟨_, rfl⟩
            rw [← hb'e, ← hm'e] at B5
            rw [← hb'e]
            generalize w6 = w5b at *
            clear hb'e hm'e
            clear q q2 k5 r5 l5 k6 h6 hob5' s5' s6' hob6' K56
            obtain ⟨A5, cap5, hv5, hcap5, hA5, rd5⟩ := B5.ref.2.1.rd
            subst hv5
            have s5 := cell_of hob5 1 rfl
            have t5 := cell_of B5.ref.1 0 rfl
            have n2 := bneI (hd L')
            have n3 := bneB (decide (kk ∈ L'))
            have n4 := bneI (L'.length : Int)
            go_region_held3 (fun wx => wx.cell? ⟨ob, 1, none⟩ = some (.int .i64 kk) ∧ wx.cell? ⟨rb, 0, none⟩ = some (.slice A5 L'.length cap5))
              (first | go_keep)
              (first
                | (go_at_call 26; refine (rep_front _ b' m' L' (by exact B5.line)).mono ?_; rintro e wx ⟨rfl, rfl⟩)
                | (go_at_call 42; refine (RLine.front_any _ rb _ L' (by exact B5.ref)).mono ?_; rintro e wx ⟨rfl, rfl⟩)
                | (go_at_call 28; refine (rep_has _ b' m' L' kk (by exact B5.line)).mono ?_; rintro e w6 ⟨rfl, k6⟩; have B6 := B5.old k6.of_drew; have hob6 := k6.of_drew.at hob5 (fun x => x); have s6 := cell_of hob6 1 rfl; have t6 := cell_of B6.ref.1 0 rfl)
                | (go_at_call 43; refine (RLine.has_any _ rb _ L' kk (by exact B6.ref)).mono ?_; rintro e w7 ⟨rfl, k7⟩; have B7 := B6.old k7; have hob7 := k7.at hob6 (fun x => x); have s7 := cell_of hob7 1 rfl; have t7 := cell_of B7.ref.1 0 rfl)
                | (go_at_call 30; refine (rep_all _ b' m' L' (by exact B7.line) (by omega)).mono ?_; rintro e w8 ⟨v8, rfl, o8, f8, k8⟩; obtain ⟨A8, cap8, rfl, hcap8, hA8, rd8⟩ := o8.rd; have B8 := B7.old k8; have hob8 := k8.at hob7 (fun x => x); have s8 := cell_of hob8 1 rfl; have t8 := cell_of B8.ref.1 0 rfl)
                | (go_at_call 31; refine (same_is _ A8 A5 cap8 cap5 L' L' L'.length L'.length true (by exact rd8) (by exact ((rd5.old k6.of_drew).old k7).old k8) rfl rfl (by omega) (by omega) (by simp)).mono ?_; rintro e w9 ⟨rfl, k9⟩; have B9 := B8.old k9; have hob9 := k9.at hob8 (fun x => x); have s9 := cell_of hob9 1 rfl; have t9 := cell_of B9.ref.1 0 rfl)
                | (go_at_call 29; refine (rep_len _ b' m' L' (by exact B9.line)).mono ?_; rintro e wx ⟨rfl, rfl⟩))
            go_wp2
            go_roundw
            case rel => exact ⟨j + 1, b', m', _, L', by omega, by go_num, rfl, B9, by omega, (((K5.trans k6.of_drew).trans k7).trans k8).trans k9⟩
            case measure => simp [intOf]; omega
          · have e2 : (kind == 2) = false := by simpa using hk2'
            clear hk2'
            have n1 := bneI 0
            go_wp2_with fail
            refine (rep_copy _ b m L B4.line).mono ?_
            rintro e w5 ⟨rfl, r5, k5⟩
            have hs5 := k5.size
            obtain ⟨b', hb'e⟩ : ∃ b', w4.heap.size + 1 = b' := ⟨_, rfl⟩
            obtain ⟨m', hm'e⟩ : ∃ m', w4.heap.size = m' := ⟨_, rfl⟩
            rw [hb'e, hm'e] at r5
            rw [hb'e]
            have l5 := B4.line.keep k5 (fun x => x) (fun x => x)
            go_wp2_with fail
            refine (rep_front _ b m L l5).mono ?_
            rintro e w6 ⟨rfl, rfl⟩
            go_wp2_with fail
            refine (rep_remove _ b m L _ l5).mono ?_
            rintro e w6 ⟨rfl, r6, k6⟩
            go_wp2_with fail
            refine (rep_push _ b m _ 77 r6).mono ?_
            rintro e w7 ⟨rfl, r7, k7⟩
            have hlt4 := B4.line.lt
            have hltr := lt_of B4.ref.1
            have B5 : Both w.heap.size w7 b' m' rb v L :=
              ⟨(r5.keep k6 (by omega) (by omega)).keep k7 (by omega) (by omega), ((B4.ref.old k5).keep k6 (by have := B4.hrb; have := B4.hrm; omega) (fun g hg => by have := B4.hv g hg; omega)).keep k7 (by have := B4.hrb; have := B4.hrm; omega) (fun g hg => by have := B4.hv g hg; omega), by have := B4.hb; omega, by have := B4.hm; omega, B4.hr, by omega, by omega, fun g hg => by have := B4.hv g hg; have := B4.ref.2.1.lt hg; omega⟩
            have hob5 := (k7.at (k6.at (k5.at hob4 (fun x => x)) (by omega)) (by omega))
            have hB1 := B4.hb
            have hB2 := B4.hm
            have K5 := (((kp.trans k4).trans k5).trans' k6 (fun x hx hl => by omega)).trans' k7 (fun x hx hl => by omega)
            obtain ⟨L', hL'⟩ : ∃ L', L' = L := ⟨_, rfl⟩
            rw [← hL'] at B5
            have hlen' : L'.length ≤ j + 1 := by rw [hL']; omega
            clear hL' r5 l5 r6 r7 k5 k6 k7
            go_wp2
            obtain ⟨A5, cap5, hv5, hcap5, hA5, rd5⟩ := B5.ref.2.1.rd
            subst hv5
            have s5 := cell_of hob5 1 rfl
            have t5 := cell_of B5.ref.1 0 rfl
            have n2 := bneI (hd L')
            have n3 := bneB (decide (kk ∈ L'))
            have n4 := bneI (L'.length : Int)
            go_region_held3 (fun wx => wx.cell? ⟨ob, 1, none⟩ = some (.int .i64 kk) ∧ wx.cell? ⟨rb, 0, none⟩ = some (.slice A5 L'.length cap5))
              (first | go_keep)
              (first
                | (go_at_call 26; refine (rep_front _ b' m' L' (by exact B5.line)).mono ?_; rintro e wx ⟨rfl, rfl⟩)
                | (go_at_call 42; refine (RLine.front_any _ rb _ L' (by exact B5.ref)).mono ?_; rintro e wx ⟨rfl, rfl⟩)
                | (go_at_call 28; refine (rep_has _ b' m' L' kk (by exact B5.line)).mono ?_; rintro e w6 ⟨rfl, k6⟩; have B6 := B5.old k6.of_drew; have hob6 := k6.of_drew.at hob5 (fun x => x); have s6 := cell_of hob6 1 rfl; have t6 := cell_of B6.ref.1 0 rfl)
                | (go_at_call 43; refine (RLine.has_any _ rb _ L' kk (by exact B6.ref)).mono ?_; rintro e w7 ⟨rfl, k7⟩; have B7 := B6.old k7; have hob7 := k7.at hob6 (fun x => x); have s7 := cell_of hob7 1 rfl; have t7 := cell_of B7.ref.1 0 rfl)
                | (go_at_call 30; refine (rep_all _ b' m' L' (by exact B7.line) (by omega)).mono ?_; rintro e w8 ⟨v8, rfl, o8, f8, k8⟩; obtain ⟨A8, cap8, rfl, hcap8, hA8, rd8⟩ := o8.rd; have B8 := B7.old k8; have hob8 := k8.at hob7 (fun x => x); have s8 := cell_of hob8 1 rfl; have t8 := cell_of B8.ref.1 0 rfl)
                | (go_at_call 31; refine (same_is _ A8 A5 cap8 cap5 L' L' L'.length L'.length true (by exact rd8) (by exact ((rd5.old k6.of_drew).old k7).old k8) rfl rfl (by omega) (by omega) (by simp)).mono ?_; rintro e w9 ⟨rfl, k9⟩; have B9 := B8.old k9; have hob9 := k9.at hob8 (fun x => x); have s9 := cell_of hob9 1 rfl; have t9 := cell_of B9.ref.1 0 rfl)
                | (go_at_call 29; refine (rep_len _ b' m' L' (by exact B9.line)).mono ?_; rintro e wx ⟨rfl, rfl⟩))
            go_wp2
            go_roundw
            case rel => exact ⟨j + 1, b', m', _, L', by omega, by go_num, rfl, B9, by omega, (((K5.trans k6.of_drew).trans k7).trans k8).trans k9⟩
            case measure => simp [intOf]; omega
      · have hk1 : decide ((j : Int) < xs.length) = false := by simp; omega
        go_wp2
        go_ret
        exact ⟨rfl, kp.below⟩
  · have hb' : decide ((xs.length : Int) > 500) = true := by simp; omega
    go_enter Try.func7, Try.ntmps7
    go_wp2_with fail
    refine (awake_any w).mono ?_
    rintro e w1 ⟨rfl, k1⟩
    go_wp2_with fail
    refine (awake_any w1).mono ?_
    rintro e w2 ⟨rfl, k2⟩
    go_wp2
    go_ret
    exact ⟨rfl, (k1.trans k2).below⟩
end Line
end Go.Proofs.Ytmlolkjgniodpaa
