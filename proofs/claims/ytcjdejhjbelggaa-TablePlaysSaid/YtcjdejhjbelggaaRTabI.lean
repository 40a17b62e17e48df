/- TablePlays' walk. -/
import Derived.Test.YtcjdejhjbelggaaRTabH
import Derived.Test.YtcjdejhjbelggaaRTabG
import Derived.Test.YtcjdejhjbelggaaRTabF
import Derived.Test.YtcjdejhjbelggaaTabO
set_option linter.unusedVariables false
set_option linter.unusedSimpArgs false
namespace Go.Proofs.Ytcjdejhjbelggaa
open Go.RowKit Go.ChangeMaps
namespace RTab
theorem bneT (x : Int) : (x != x) = false := by simp
abbrev BothN (B : Nat) (w : World) (b m n rb : Nat) (A : Option Addr) (k cap : Nat) (E G L : Tab.Prs) : Prop := Both B w b m n rb (.slice A k cap) E G L
theorem pcs_len (E : Tab.Prs) : ∀ (f : Nat) (a n : Int), 0 ≤ n → ((Tab.pcs E f a n).getD []).length ≤ n := by
  intro f
  induction f with
  | zero => intro a n hn; simpa [Tab.pcs] using hn
  | succ f ih =>
    intro a n hn
    rw [Tab.pcs]
    split
    · simpa using hn
    · split
      · simpa using hn
      · have h1 : 1 ≤ Tab.least n (a % 512) ∧ Tab.least n (a % 512) ≤ n := by unfold Tab.least; split <;> omega
        have := ih (a + Tab.least n (a % 512)) (n - Tab.least n (a % 512)) (by omega)
        cases e : Tab.pcs E f (a + Tab.least n (a % 512)) (n - Tab.least n (a % 512)) with
        | none => simpa using hn
        | some l => rw [e] at this; simp at this ⊢; omega
theorem pieces_len (E : Tab.Prs) (a n : Int) (h : n ≤ 8192) : ((Tab.pieces E a n).getD []).length ≤ 1000000 := by
  unfold Tab.pieces
  split
  · rename_i hw
    have : 0 ≤ n := by unfold Tab.within at hw; simp at hw; omega
    have := pcs_len E n.toNat a n this
    omega
  · simp

set_option maxRecDepth 100000 in
set_option maxHeartbeats 8000000 in
theorem plays_any (w : World) (A : Option Addr) (cap : Nat) (xs : List Tab.TOp) (ha : Rd w A (xs.flatMap Tab.TOp.enc)) (hx : xs.length ≤ maxLen) :
    Calls Try.prog 3 #[.slice A xs.length cap] w fun e w' => e = .returned (.bool true) ∧ Below w.heap.size w w' := by
  unfold maxLen at hx
  by_cases hb : xs.length ≤ 200
  · have hb' : decide ((xs.length : Int) > 200) = false := by simp; omega
    go_enter Try.func3, Try.ntmps3
    go_wp2_with fail
    refine (Tab.awake_any w).mono ?_
    rintro e w1 ⟨rfl, k1⟩
    go_wp2_with fail
    refine (Tab.tb_new w1).mono ?_
    rintro e w2 ⟨b0, m0, n0, rfl, t2, k2⟩
    have hs1 := k1.size
    have hs2 := k2.size
    obtain ⟨w3, hw3⟩ : ∃ w3, w2.alloc (.cells #[.slice none 0 0] 29) = w3 := ⟨_, rfl⟩
    have k3 : Keeps (fun _ => False) w w3 := by rw [← hw3]; exact (k1.trans k2).alloc _
    have B3 : Both w.heap.size w3 b0 m0 n0 w2.heap.size (.slice none 0 0) [] [] [] := by
      rw [← hw3]
      have hlt := t2.1.lt
      have hge := t2.2.2
      exact ⟨⟨t2.1.old ((Keeps.refl (fun _ => False) w2).alloc _), t2.2.1, by omega, by omega, by omega⟩, ⟨alloc_new _ _, Own.nil _ _ _, by simp [Value.ownBlock]⟩, Rl.nil, by omega, by omega, by simp [Value.ownBlock]⟩
    have hs3 : w2.heap.size < w3.heap.size := by rw [← hw3]; simp
    generalize hrb : w2.heap.size = rb at *
    clear t2
    go_wp2_with fail
    go_loopw [3, 29] (fun p i wr => ∃ (j b m n : Nat) (v : Value) (E G L : Tab.Prs), j ≤ xs.length ∧ i = .int .i64 j ∧ p = .pointer (some ⟨b, 0, none⟩) ∧ Both w.heap.size wr b m n rb v E G L ∧ L.length ≤ j ∧ Keeps (fun _ => False) w wr) (fun _ i _ => xs.length - (intOf i).toNat)
    case atStart => exact ⟨0, _, _, _, _, [], [], [], Nat.zero_le _, rfl, rfl, B3, by simp, k3⟩
    case round =>
      clear B3 k3 hw3 hrb hs3 hs2 hs1 k1 k2
      obtain ⟨j, b, m, n, v, E, G, L, hj, rfl, rfl, B, hLj, kp⟩ := hrel
      by_cases hlt : j < xs.length
      · obtain ⟨b1, o1, s1, kind, vv, pp, rfl, hc1, hc2, hc3⟩ := Tab.op_cells (Rd.old ha kp) j hlt
        have hk1 : decide ((j : Int) < xs.length) = true := by simp; omega
        obtain ⟨w4, hw4⟩ : ∃ w4, wr.alloc (.cells #[.int .i64 kind, .int .i64 vv, .int .i64 pp] 31) = w4 := ⟨_, rfl⟩
        have k4 : Keeps (fun _ => False) wr w4 := by rw [← hw4]; exact (Keeps.refl _ _).alloc _
        have hob : w4.heap[wr.heap.size]? = some (.cells #[.int .i64 kind, .int .i64 vv, .int .i64 pp] 31 (0, 0)) := by rw [← hw4]; exact alloc_new _ _
        have hkp := kp.size
        have hk4s := k4.size
        obtain ⟨ob, hobe⟩ : ∃ ob, wr.heap.size = ob := ⟨_, rfl⟩
        rw [hobe] at hob
        have d0 := cell_of hob 0 rfl
        have d1 := cell_of hob 1 rfl
        have d2 := cell_of hob 2 rfl
        have B4 := B.old k4
        have hobw : ob < w4.heap.size := lt_of hob
        have hob4 := hob
        have hobB : ob ≠ b ∧ ob ≠ m ∧ ob ≠ n ∧ ob ≠ rb := by have := B.lt; omega
        have hobR : ¬ ob = rb := hobB.2.2.2
        have hobV : ¬ v.ownBlock = some ob := fun e => by have := B.lt.2.2.2.2 ob e; omega
        by_cases hk1 : kind = 1
        · have e1 : (kind == 1) = true := by simpa using hk1
          clear hk1
          go_wp2
          obtain ⟨E', hE'⟩ : ∃ E', E' = (Tab.mapS E G vv pp).1 := ⟨_, rfl⟩
          obtain ⟨G', hG'⟩ : ∃ G', G' = (Tab.mapS E G vv pp).2 := ⟨_, rfl⟩
          obtain ⟨L', hL'⟩ : ∃ L', L' = (if mapCode L vv pp = 0 then ins L vv pp else L) := ⟨_, rfl⟩
          have hrl : Rl L' E' := by rw [hL', hE']; exact B4.rl.map B4.tb.2.1 vv pp
          have hlen' : L'.length ≤ j + 1 := by have := map_len L vv pp; rw [← hL'] at this; omega
          have q := Tab.tb_map (w := w4.drew) vv pp (by exact B4.tb)
          have q2 : ∀ (wx : World) (h : At wx rb v L), _ := fun (wx : World) (h : At wx rb v L) => map_any wx rb v L vv pp h (by omega)
          rw [← hL', mapCode_eq B4.rl B4.tb.2.1] at q2
          rw [← hE', ← hG'] at q
          generalize Tab.mapE E G vv pp = ev at *
          clear hL' hE' hG'
          have n0 := bneT ev
          have n1 := bneT 0
          go_region_held3 (fun wx => wx.cell? ⟨ob, 1, none⟩ = some (.int .i64 vv) ∧ wx.cell? ⟨ob, 2, none⟩ = some (.int .i64 pp))
            (first | go_keep)
            (first
              | (go_at_call 7; refine q.mono ?_; rintro e w5 ⟨rfl, r5, k5⟩; have l5 := B4.left k5.of_drew; have hob5' := k5.of_drew.at hob4 (by omega); have s5' := cell_of hob5' 1 rfl; have p5' := cell_of hob5' 2 rfl)
              | (go_at_call 8; refine (q2 _ (by exact l5)).mono ?_; rintro e w6 ⟨rfl, h6, k6⟩; have hob6' := k6.at hob5' hobR; have s6' := cell_of hob6' 1 rfl; have p6' := cell_of hob6' 2 rfl))
          go_wp2
          obtain ⟨v5, B5, K56⟩ := both_mk B4 k5.of_drew r5 (k6.mono (fun _ _ e => .inl e)) h6 hrl (by have := k4.size; omega)
          have K5 := (kp.trans k4).trans' K56 (fun x hx hl => by omega)
          have hob5 := hob6'
          obtain ⟨b', hb'e⟩ : ∃ b', b' = b := ⟨_, rfl⟩
          obtain ⟨m', hm'e⟩ : ∃ m', m' = m := ⟨_, rfl⟩
          obtain ⟨n', hn'e⟩ : ∃ n', n' = n := ⟨_, rfl⟩
          rw [← hb'e, ← hm'e, ← hn'e] at B5
          rw [← hb'e]
          clear hb'e hm'e hn'e
          generalize w6 = w5b at *
          clear q q2 k5 r5 l5 k6 h6 hob5' s5' s6' p5' p6' hob6' K56 hrl B4 hob4 hob
          obtain ⟨A5, cap5, hv5, hcap5, hA5, rd5⟩ := own_rd B5.ref.2.1
          subst hv5
          have s5 := cell_of hob5 1 rfl
          have p5 := cell_of hob5 2 rfl
          have t5 := cell_of B5.ref.1 0 rfl
          have hEL : Hid (L'.length = E'.length) := Hid.of (B5.rl.len B5.tb.2.1.ke)
          have hkeys : Hid (L'.map (·.1) = Tab.sortedKeys E') := Hid.of (B5.rl.keys B5.tb.2.1.ke)
          have hE1 : E'.length ≤ 1000000 := by have := hEL.out; omega
          have hL1 : L'.length ≤ 1000000 := by omega
          obtain ⟨nn, hnn⟩ : ∃ nn, E'.length = nn := ⟨_, rfl⟩
          have hnn2 : L'.length = nn := by rw [hEL.out]; exact hnn
          have hnn1 : nn ≤ 1000000 := by omega
          have qL := fun (wx : World) (h : Tab.At wx b' m' n' E' G') => Tab.len_any wx b' m' n' E' G' h
          rw [hnn] at qL
          have qF := fun (wx : World) (h : At wx rb (.slice A5 L'.length cap5) L') => find_any wx rb _ L' vv h
          rw [B5.rl.byV] at qF
          have qH := fun (wx : World) (h : At wx rb (.slice A5 L'.length cap5) L') => holder_any wx rb _ L' pp h
          rw [B5.rl.byP B5.tb.2.1] at qH
          have qf := fun (wx : World) (h : Tab.At wx b' m' n' E' G') => Tab.find_any wx b' m' n' E' G' vv h
          have qh := fun (wx : World) (h : Tab.At wx b' m' n' E' G') => Tab.holder_any wx b' m' n' E' G' pp h
          have qA := fun (wx : World) (h : Tab.At wx b' m' n' E' G') => Tab.all_any wx b' m' n' E' G' h B5.tb.2.1 hE1
          have qR := fun (wx : World) (h : At wx rb (.slice A5 L'.length cap5) L') => all_any wx rb _ L' h hL1
          rw [hkeys.out] at qR
          rw [hnn] at qA
          rw [hnn2] at qF qH qR
          rw [hnn2] at t5
          generalize Tab.fnd E' vv = f1 at *
          generalize Tab.fnd G' pp = f2 at *
          have HN := Hid.of (And.intro hnn hnn2)
          clear hnn hnn2
          have n2 := bneT f1
          have n3 := bneT f2
          have n4 := bneT (nn : Int)
          have hsl : (Tab.sortedKeys E').length = nn := by rw [Tab.sortedKeys_len]; exact HN.out.1
          have B5' : BothN w.heap.size w5b b' m' n' rb A5 nn cap5 E' G' L' := by
            have := B5
            rw [HN.out.2] at this; exact this
          go_region_held3 (fun wx => wx.cell? ⟨ob, 1, none⟩ = some (.int .i64 vv) ∧ wx.cell? ⟨ob, 2, none⟩ = some (.int .i64 pp) ∧ wx.cell? ⟨rb, 0, none⟩ = some (.slice A5 nn cap5))
            (first | go_keep)
            (first
              | (go_at_call 22; refine (same_is _ A6 A7 cap6 cap7 (Tab.sortedKeys E') (Tab.sortedKeys E') nn nn true (by exact R1) (by exact R2) (by exact hsl) (by exact hsl) (by exact hnn1) (by exact hnn1) (by simp)).mono ?_; rintro e w9 ⟨rfl, k9⟩; have B9 := B7.old k9; have hob9 := k9.at hob7 (fun x => x); have s9 := cell_of hob9 1 rfl; have p9 := cell_of hob9 2 rfl; have t9 := cell_of B9.ref.1 0 rfl; have K9 := K7.trans k9)
              | (go_at_call 24; have kk := k6; refine (qR _ (by exact B6.ref)).mono ?_; rintro e w7 ⟨v7, rfl, o7, k7⟩; obtain ⟨A7, cap7, rfl, hcap7, hA7, rd7⟩ := own_rd o7.1; have R1 := rd6.old k7; have R2 := rd7; have B7 := B6.old k7; have hob7 := k7.at hob6 (fun x => x); have s7 := cell_of hob7 1 rfl; have p7 := cell_of hob7 2 rfl; have t7 := cell_of B7.ref.1 0 rfl; have K7 := (K5.trans k6.of_drew).trans k7)
              | (go_at_call 23; have kk := j6; refine (qA _ (by exact B6.tb.1)).mono ?_; rintro e w7 ⟨v6, rfl, o6, f6, k7⟩; obtain ⟨A6, cap6, rfl, hcap6, hA6, rd6⟩ := own_rd o6; have R1 := rd6; have R2 := rd7.old k7; have B7 := B6.old k7; have hob7 := k7.at hob6 (fun x => x); have s7 := cell_of hob7 1 rfl; have p7 := cell_of hob7 2 rfl; have t7 := cell_of B7.ref.1 0 rfl; have K7 := (K5.trans j6.of_drew).trans k7)
              | (go_at_call 23; refine (qA _ (by exact B5'.tb.1)).mono ?_; rintro e w6 ⟨v6, rfl, o6, f6, k6⟩; obtain ⟨A6, cap6, rfl, hcap6, hA6, rd6⟩ := own_rd o6; have B6 := B5'.old k6.of_drew; have hob6 := k6.of_drew.at hob5 (fun x => x); have s6 := cell_of hob6 1 rfl; have p6 := cell_of hob6 2 rfl; have t6 := cell_of B6.ref.1 0 rfl)
              | (go_at_call 24; refine (qR _ (by exact B5'.ref)).mono ?_; rintro e w6 ⟨v7, rfl, o7, j6⟩; obtain ⟨A7, cap7, rfl, hcap7, hA7, rd7⟩ := own_rd o7.1; have B6 := B5'.old j6.of_drew; have hob6 := j6.of_drew.at hob5 (fun x => x); have s6 := cell_of hob6 1 rfl; have p6 := cell_of hob6 2 rfl; have t6 := cell_of B6.ref.1 0 rfl)
              | (go_at_call 18; refine (qF _ (by exact B5'.ref)).mono ?_; rintro e wx ⟨rfl, rfl⟩)
              | (go_at_call 20; refine (qH _ (by exact B5'.ref)).mono ?_; rintro e wx ⟨rfl, rfl⟩)
              | (go_at_call 17; refine (qf _ (by exact B5'.tb.1)).mono ?_; rintro e wx ⟨rfl, rfl⟩)
              | (go_at_call 19; refine (qh _ (by exact B5'.tb.1)).mono ?_; rintro e wx ⟨rfl, rfl⟩)
              | (go_at_call 21; refine (qL _ (by exact B5'.tb.1)).mono ?_; rintro e wx ⟨rfl, rfl⟩))
          all_goals
            go_wp2
            go_roundw
            case rel => exact ⟨j + 1, b', m', n', _, E', G', L', by omega, by go_num, rfl, B9, by omega, K9⟩
            case measure => simp [intOf]; omega
        · have e1 : (kind == 1) = false := by simpa using hk1
          clear hk1
          by_cases hk2 : kind = 2
          · have e2 : (kind == 2) = true := by simpa using hk2
            clear hk2
            obtain ⟨E', hE'⟩ : ∃ E', E' = (Tab.unS E G vv).1 := ⟨_, rfl⟩
            obtain ⟨G', hG'⟩ : ∃ G', G' = (Tab.unS E G vv).2 := ⟨_, rfl⟩
            obtain ⟨L', hL'⟩ : ∃ L', L' = (if byV L vv < 0 then L else del L vv) := ⟨_, rfl⟩
            have hrl : Rl L' E' := by rw [hL', hE']; exact B4.rl.un vv
            have hlen' : L'.length ≤ j + 1 := by have := un_len L vv; rw [← hL'] at this; omega
            have q := Tab.tb_unmap vv B4.tb
            have q2 : ∀ (wx : World) (h : At wx rb v L), _ := fun (wx : World) (h : At wx rb v L) => unmap_any wx rb v L vv h (by omega)
            rw [← hL'] at q2
            have hun : (if byV L vv < 0 then (0 : Int) else byV L vv) = (Tab.unE E vv).1 ∧ (if byV L vv < 0 then (13 : Int) else 0) = (Tab.unE E vv).2 := by
              rw [B4.rl.byV]; unfold Tab.unE; split <;> exact ⟨rfl, rfl⟩
            rw [hun.1, hun.2] at q2
            clear hun
            generalize (Tab.unE E vv).1 = ev at *
            generalize (Tab.unE E vv).2 = ew at *
            have n0 := bneT ev
            have n1 := bneT ew
            rw [← hE', ← hG'] at q
            clear hL' hE' hG'
            go_wp2_with fail
            refine q.mono ?_
            rintro e w5 ⟨rfl, r5, k5⟩
            have l5 := B4.left k5
            have hob5' := k5.at hob4 (by omega)
            have s5' := cell_of hob5' 1 rfl
            have p5' := cell_of hob5' 2 rfl
            go_wp2_with fail
            refine (q2 _ (by exact l5)).mono ?_
            rintro e w6 ⟨rfl, h6, k6⟩
            have hob6' := k6.at hob5' hobR
            obtain ⟨v5, B5, K56⟩ := both_mk B4 k5 r5 (k6.mono (fun _ _ e => .inl e)) h6 hrl (by have := k4.size; omega)
            have K5 := (kp.trans k4).trans' K56 (fun x hx hl => by omega)
            have hob5 := hob6'
            obtain ⟨b', hb'e⟩ : ∃ b', b' = b := ⟨_, rfl⟩
            obtain ⟨m', hm'e⟩ : ∃ m', m' = m := ⟨_, rfl⟩
            obtain ⟨n', hn'e⟩ : ∃ n', n' = n := ⟨_, rfl⟩
            rw [← hb'e, ← hm'e, ← hn'e] at B5
            rw [← hb'e]
            clear hb'e hm'e hn'e
            generalize w6 = w5b at *
            clear q q2 k5 r5 l5 k6 h6 hob5' s5' p5' hob6' K56 hrl B4 hob4 hob
            go_wp2
            obtain ⟨A5, cap5, hv5, hcap5, hA5, rd5⟩ := own_rd B5.ref.2.1
            subst hv5
            have s5 := cell_of hob5 1 rfl
            have p5 := cell_of hob5 2 rfl
            have t5 := cell_of B5.ref.1 0 rfl
            have hEL : Hid (L'.length = E'.length) := Hid.of (B5.rl.len B5.tb.2.1.ke)
            have hkeys : Hid (L'.map (·.1) = Tab.sortedKeys E') := Hid.of (B5.rl.keys B5.tb.2.1.ke)
            have hE1 : E'.length ≤ 1000000 := by have := hEL.out; omega
            have hL1 : L'.length ≤ 1000000 := by omega
            obtain ⟨nn, hnn⟩ : ∃ nn, E'.length = nn := ⟨_, rfl⟩
            have hnn2 : L'.length = nn := by rw [hEL.out]; exact hnn
            have hnn1 : nn ≤ 1000000 := by omega
            have qL := fun (wx : World) (h : Tab.At wx b' m' n' E' G') => Tab.len_any wx b' m' n' E' G' h
            rw [hnn] at qL
            have qF := fun (wx : World) (h : At wx rb (.slice A5 L'.length cap5) L') => find_any wx rb _ L' vv h
            rw [B5.rl.byV] at qF
            have qH := fun (wx : World) (h : At wx rb (.slice A5 L'.length cap5) L') => holder_any wx rb _ L' pp h
            rw [B5.rl.byP B5.tb.2.1] at qH
            have qf := fun (wx : World) (h : Tab.At wx b' m' n' E' G') => Tab.find_any wx b' m' n' E' G' vv h
            have qh := fun (wx : World) (h : Tab.At wx b' m' n' E' G') => Tab.holder_any wx b' m' n' E' G' pp h
            have qA := fun (wx : World) (h : Tab.At wx b' m' n' E' G') => Tab.all_any wx b' m' n' E' G' h B5.tb.2.1 hE1
            have qR := fun (wx : World) (h : At wx rb (.slice A5 L'.length cap5) L') => all_any wx rb _ L' h hL1
            rw [hkeys.out] at qR
            rw [hnn] at qA
            rw [hnn2] at qF qH qR
            rw [hnn2] at t5
            generalize Tab.fnd E' vv = f1 at *
            generalize Tab.fnd G' pp = f2 at *
            have HN := Hid.of (And.intro hnn hnn2)
            clear hnn hnn2
            have n2 := bneT f1
            have n3 := bneT f2
            have n4 := bneT (nn : Int)
            have hsl : (Tab.sortedKeys E').length = nn := by rw [Tab.sortedKeys_len]; exact HN.out.1
            have B5' : BothN w.heap.size w5b b' m' n' rb A5 nn cap5 E' G' L' := by
              have := B5
              rw [HN.out.2] at this; exact this
            go_region_held3 (fun wx => wx.cell? ⟨ob, 1, none⟩ = some (.int .i64 vv) ∧ wx.cell? ⟨ob, 2, none⟩ = some (.int .i64 pp) ∧ wx.cell? ⟨rb, 0, none⟩ = some (.slice A5 nn cap5))
              (first | go_keep)
              (first
                | (go_at_call 22; refine (same_is _ A6 A7 cap6 cap7 (Tab.sortedKeys E') (Tab.sortedKeys E') nn nn true (by exact R1) (by exact R2) (by exact hsl) (by exact hsl) (by exact hnn1) (by exact hnn1) (by simp)).mono ?_; rintro e w9 ⟨rfl, k9⟩; have B9 := B7.old k9; have hob9 := k9.at hob7 (fun x => x); have s9 := cell_of hob9 1 rfl; have p9 := cell_of hob9 2 rfl; have t9 := cell_of B9.ref.1 0 rfl; have K9 := K7.trans k9)
                | (go_at_call 24; have kk := k6; refine (qR _ (by exact B6.ref)).mono ?_; rintro e w7 ⟨v7, rfl, o7, k7⟩; obtain ⟨A7, cap7, rfl, hcap7, hA7, rd7⟩ := own_rd o7.1; have R1 := rd6.old k7; have R2 := rd7; have B7 := B6.old k7; have hob7 := k7.at hob6 (fun x => x); have s7 := cell_of hob7 1 rfl; have p7 := cell_of hob7 2 rfl; have t7 := cell_of B7.ref.1 0 rfl; have K7 := (K5.trans k6.of_drew).trans k7)
                | (go_at_call 23; have kk := j6; refine (qA _ (by exact B6.tb.1)).mono ?_; rintro e w7 ⟨v6, rfl, o6, f6, k7⟩; obtain ⟨A6, cap6, rfl, hcap6, hA6, rd6⟩ := own_rd o6; have R1 := rd6; have R2 := rd7.old k7; have B7 := B6.old k7; have hob7 := k7.at hob6 (fun x => x); have s7 := cell_of hob7 1 rfl; have p7 := cell_of hob7 2 rfl; have t7 := cell_of B7.ref.1 0 rfl; have K7 := (K5.trans j6.of_drew).trans k7)
                | (go_at_call 23; refine (qA _ (by exact B5'.tb.1)).mono ?_; rintro e w6 ⟨v6, rfl, o6, f6, k6⟩; obtain ⟨A6, cap6, rfl, hcap6, hA6, rd6⟩ := own_rd o6; have B6 := B5'.old k6.of_drew; have hob6 := k6.of_drew.at hob5 (fun x => x); have s6 := cell_of hob6 1 rfl; have p6 := cell_of hob6 2 rfl; have t6 := cell_of B6.ref.1 0 rfl)
                | (go_at_call 24; refine (qR _ (by exact B5'.ref)).mono ?_; rintro e w6 ⟨v7, rfl, o7, j6⟩; obtain ⟨A7, cap7, rfl, hcap7, hA7, rd7⟩ := own_rd o7.1; have B6 := B5'.old j6.of_drew; have hob6 := j6.of_drew.at hob5 (fun x => x); have s6 := cell_of hob6 1 rfl; have p6 := cell_of hob6 2 rfl; have t6 := cell_of B6.ref.1 0 rfl)
                | (go_at_call 18; refine (qF _ (by exact B5'.ref)).mono ?_; rintro e wx ⟨rfl, rfl⟩)
                | (go_at_call 20; refine (qH _ (by exact B5'.ref)).mono ?_; rintro e wx ⟨rfl, rfl⟩)
                | (go_at_call 17; refine (qf _ (by exact B5'.tb.1)).mono ?_; rintro e wx ⟨rfl, rfl⟩)
                | (go_at_call 19; refine (qh _ (by exact B5'.tb.1)).mono ?_; rintro e wx ⟨rfl, rfl⟩)
                | (go_at_call 21; refine (qL _ (by exact B5'.tb.1)).mono ?_; rintro e wx ⟨rfl, rfl⟩))
            all_goals
              go_wp2
              go_roundw
              case rel => exact ⟨j + 1, b', m', n', _, E', G', L', by omega, by go_num, rfl, B9, by omega, K9⟩
              case measure => simp [intOf]; omega
          · have e2 : (kind == 2) = false := by simpa using hk2
            clear hk2
            by_cases hk3 : kind = 3
            · have e3 : (kind == 3) = true := by simpa using hk3
              clear hk3
              obtain ⟨E', hE'⟩ : ∃ E', E' = (Tab.swS E G vv pp).1 := ⟨_, rfl⟩
              obtain ⟨G', hG'⟩ : ∃ G', G' = (Tab.swS E G vv pp).2 := ⟨_, rfl⟩
              obtain ⟨L', hL'⟩ : ∃ L', L' = (if (swCode L vv pp).2 = 0 then swL L vv pp else L) := ⟨_, rfl⟩
              have hrl : Rl L' E' := by rw [hL', hE']; exact B4.rl.swp B4.tb.2.1 vv pp
              have hlen' : L'.length ≤ j + 1 := by have := sw_len L vv pp; rw [← hL'] at this; omega
              have q := Tab.tb_swap vv pp B4.tb
              have q2 : ∀ (wx : World) (h : At wx rb v L), _ := fun (wx : World) (h : At wx rb v L) => swap_any wx rb v L vv pp h (by omega)
              rw [← hL'] at q2
              rw [swCode_eq B4.rl B4.tb.2.1] at q2
              generalize (Tab.swE E G vv pp).1 = ev at *
              generalize (Tab.swE E G vv pp).2 = ew at *
              have n0 := bneT ev
              have n1 := bneT ew
              rw [← hE', ← hG'] at q
              clear hL' hE' hG'
              go_wp2_with fail
              refine q.mono ?_
              rintro e w5 ⟨rfl, r5, k5⟩
              have l5 := B4.left k5
              have hob5' := k5.at hob4 (by omega)
              have s5' := cell_of hob5' 1 rfl
              have p5' := cell_of hob5' 2 rfl
              go_wp2_with fail
              refine (q2 _ (by exact l5)).mono ?_
              rintro e w6 ⟨rfl, h6, k6⟩
              have hob6' := k6.at hob5' hobV
              obtain ⟨v5, B5, K56⟩ := both_mk B4 k5 r5 (k6.mono (fun _ _ e => .inr e)) ⟨v, h6, .inl rfl⟩ hrl (by have := k4.size; omega)
              have K5 := (kp.trans k4).trans' K56 (fun x hx hl => by omega)
              have hob5 := hob6'
              obtain ⟨b', hb'e⟩ : ∃ b', b' = b := ⟨_, rfl⟩
              obtain ⟨m', hm'e⟩ : ∃ m', m' = m := ⟨_, rfl⟩
              obtain ⟨n', hn'e⟩ : ∃ n', n' = n := ⟨_, rfl⟩
              rw [← hb'e, ← hm'e, ← hn'e] at B5
              rw [← hb'e]
              clear hb'e hm'e hn'e
              generalize w6 = w5b at *
              clear q q2 k5 r5 l5 k6 h6 hob5' s5' p5' hob6' K56 hrl B4 hob4 hob
              go_wp2
              obtain ⟨A5, cap5, hv5, hcap5, hA5, rd5⟩ := own_rd B5.ref.2.1
              subst hv5
              have s5 := cell_of hob5 1 rfl
              have p5 := cell_of hob5 2 rfl
              have t5 := cell_of B5.ref.1 0 rfl
              have hEL : Hid (L'.length = E'.length) := Hid.of (B5.rl.len B5.tb.2.1.ke)
              have hkeys : Hid (L'.map (·.1) = Tab.sortedKeys E') := Hid.of (B5.rl.keys B5.tb.2.1.ke)
              have hE1 : E'.length ≤ 1000000 := by have := hEL.out; omega
              have hL1 : L'.length ≤ 1000000 := by omega
              obtain ⟨nn, hnn⟩ : ∃ nn, E'.length = nn := ⟨_, rfl⟩
              have hnn2 : L'.length = nn := by rw [hEL.out]; exact hnn
              have hnn1 : nn ≤ 1000000 := by omega
              have qL := fun (wx : World) (h : Tab.At wx b' m' n' E' G') => Tab.len_any wx b' m' n' E' G' h
              rw [hnn] at qL
              have qF := fun (wx : World) (h : At wx rb (.slice A5 L'.length cap5) L') => find_any wx rb _ L' vv h
              rw [B5.rl.byV] at qF
              have qH := fun (wx : World) (h : At wx rb (.slice A5 L'.length cap5) L') => holder_any wx rb _ L' pp h
              rw [B5.rl.byP B5.tb.2.1] at qH
              have qf := fun (wx : World) (h : Tab.At wx b' m' n' E' G') => Tab.find_any wx b' m' n' E' G' vv h
              have qh := fun (wx : World) (h : Tab.At wx b' m' n' E' G') => Tab.holder_any wx b' m' n' E' G' pp h
              have qA := fun (wx : World) (h : Tab.At wx b' m' n' E' G') => Tab.all_any wx b' m' n' E' G' h B5.tb.2.1 hE1
              have qR := fun (wx : World) (h : At wx rb (.slice A5 L'.length cap5) L') => all_any wx rb _ L' h hL1
              rw [hkeys.out] at qR
              rw [hnn] at qA
              rw [hnn2] at qF qH qR
              rw [hnn2] at t5
              generalize Tab.fnd E' vv = f1 at *
              generalize Tab.fnd G' pp = f2 at *
              have HN := Hid.of (And.intro hnn hnn2)
              clear hnn hnn2
              have n2 := bneT f1
              have n3 := bneT f2
              have n4 := bneT (nn : Int)
              have hsl : (Tab.sortedKeys E').length = nn := by rw [Tab.sortedKeys_len]; exact HN.out.1
              have B5' : BothN w.heap.size w5b b' m' n' rb A5 nn cap5 E' G' L' := by
                have := B5
                rw [HN.out.2] at this; exact this
              go_region_held3 (fun wx => wx.cell? ⟨ob, 1, none⟩ = some (.int .i64 vv) ∧ wx.cell? ⟨ob, 2, none⟩ = some (.int .i64 pp) ∧ wx.cell? ⟨rb, 0, none⟩ = some (.slice A5 nn cap5))
                (first | go_keep)
                (first
                  | (go_at_call 22; refine (same_is _ A6 A7 cap6 cap7 (Tab.sortedKeys E') (Tab.sortedKeys E') nn nn true (by exact R1) (by exact R2) (by exact hsl) (by exact hsl) (by exact hnn1) (by exact hnn1) (by simp)).mono ?_; rintro e w9 ⟨rfl, k9⟩; have B9 := B7.old k9; have hob9 := k9.at hob7 (fun x => x); have s9 := cell_of hob9 1 rfl; have p9 := cell_of hob9 2 rfl; have t9 := cell_of B9.ref.1 0 rfl; have K9 := K7.trans k9)
                  | (go_at_call 24; have kk := k6; refine (qR _ (by exact B6.ref)).mono ?_; rintro e w7 ⟨v7, rfl, o7, k7⟩; obtain ⟨A7, cap7, rfl, hcap7, hA7, rd7⟩ := own_rd o7.1; have R1 := rd6.old k7; have R2 := rd7; have B7 := B6.old k7; have hob7 := k7.at hob6 (fun x => x); have s7 := cell_of hob7 1 rfl; have p7 := cell_of hob7 2 rfl; have t7 := cell_of B7.ref.1 0 rfl; have K7 := (K5.trans k6.of_drew).trans k7)
                  | (go_at_call 23; have kk := j6; refine (qA _ (by exact B6.tb.1)).mono ?_; rintro e w7 ⟨v6, rfl, o6, f6, k7⟩; obtain ⟨A6, cap6, rfl, hcap6, hA6, rd6⟩ := own_rd o6; have R1 := rd6; have R2 := rd7.old k7; have B7 := B6.old k7; have hob7 := k7.at hob6 (fun x => x); have s7 := cell_of hob7 1 rfl; have p7 := cell_of hob7 2 rfl; have t7 := cell_of B7.ref.1 0 rfl; have K7 := (K5.trans j6.of_drew).trans k7)
                  | (go_at_call 23; refine (qA _ (by exact B5'.tb.1)).mono ?_; rintro e w6 ⟨v6, rfl, o6, f6, k6⟩; obtain ⟨A6, cap6, rfl, hcap6, hA6, rd6⟩ := own_rd o6; have B6 := B5'.old k6.of_drew; have hob6 := k6.of_drew.at hob5 (fun x => x); have s6 := cell_of hob6 1 rfl; have p6 := cell_of hob6 2 rfl; have t6 := cell_of B6.ref.1 0 rfl)
                  | (go_at_call 24; refine (qR _ (by exact B5'.ref)).mono ?_; rintro e w6 ⟨v7, rfl, o7, j6⟩; obtain ⟨A7, cap7, rfl, hcap7, hA7, rd7⟩ := own_rd o7.1; have B6 := B5'.old j6.of_drew; have hob6 := j6.of_drew.at hob5 (fun x => x); have s6 := cell_of hob6 1 rfl; have p6 := cell_of hob6 2 rfl; have t6 := cell_of B6.ref.1 0 rfl)
                  | (go_at_call 18; refine (qF _ (by exact B5'.ref)).mono ?_; rintro e wx ⟨rfl, rfl⟩)
                  | (go_at_call 20; refine (qH _ (by exact B5'.ref)).mono ?_; rintro e wx ⟨rfl, rfl⟩)
                  | (go_at_call 17; refine (qf _ (by exact B5'.tb.1)).mono ?_; rintro e wx ⟨rfl, rfl⟩)
                  | (go_at_call 19; refine (qh _ (by exact B5'.tb.1)).mono ?_; rintro e wx ⟨rfl, rfl⟩)
                  | (go_at_call 21; refine (qL _ (by exact B5'.tb.1)).mono ?_; rintro e wx ⟨rfl, rfl⟩))
              all_goals
                go_wp2
                go_roundw
                case rel => exact ⟨j + 1, b', m', n', _, E', G', L', by omega, by go_num, rfl, B9, by omega, K9⟩
                case measure => simp [intOf]; omega
            · have e3 : (kind == 3) = false := by simpa using hk3
              clear hk3
              by_cases hk4 : kind = 4
              · have e4 : (kind == 4) = true := by simpa using hk4
                clear hk4
                by_cases hpb : pp ≤ 8192
                · have hE0 : ∀ k, Tab.fnd E k ≤ 1048576 := B4.tb.2.1.le
                  have hF0 : ∀ k, byV L k ≤ 1048576 := fun k => by rw [B4.rl.byV]; exact hE0 k
                  have q := Tab.pieces_any w4 b m n E G vv pp B4.tb.1 hE0
                  have q2 := fun (wx : World) (h : At wx rb v L) => pieces_any wx rb v L vv pp h hpb hF0
                  have hFe : byV L = Tab.fnd E := funext (fun k => B4.rl.byV k)
                  rw [hFe, rpieces_eq] at q2
                  clear hE0 hF0 hFe
                  have hpl := pieces_len E vv pp hpb
                  generalize Tab.code (Tab.pieces E vv pp) = cd at *
                  generalize (Tab.pieces E vv pp).getD [] = sp at *
                  have n0 := bneT cd
                  go_wp2_with fail
                  refine q.mono ?_
                  rintro e w5 ⟨u5, rfl, o5, k5⟩
                  have B5x := B4.old k5
                  have hob5x := k5.at hob4 (fun x => x)
                  have s5x := cell_of hob5x 1 rfl
                  have p5x := cell_of hob5x 2 rfl
                  go_wp2_with fail
                  refine (q2 _ B5x.ref).mono ?_
                  rintro e w6 ⟨u6, rfl, o6, k6⟩
                  obtain ⟨Ax, cx, rfl, hcx, hAx, rx⟩ := o5.rd
                  obtain ⟨Ay, cy, rfl, hcy, hAy, ry⟩ := o6.rd
                  have rx' := rx.old k6
                  have q3 := same_span_is w6 Ax Ay cx cy sp sp sp.length sp.length rx' ry rfl rfl hpl hpl
                  have hdec : decide (sp = sp) = true := by simp
                  rw [hdec] at q3
                  clear q q2 rx ry rx' o5 o6 hdec hcx hcy hAx hAy
                  go_wp2_with fail
                  refine q3.mono ?_
                  rintro e w7 ⟨rfl, k7⟩
                  have B5 := (B5x.old k6).old k7
                  have hob5 := k7.at (k6.at hob5x (fun x => x)) (fun x => x)
                  have K5 := (((kp.trans k4).trans k5).trans k6).trans k7
                  obtain ⟨E', hE'⟩ : ∃ E', E' = E := ⟨_, rfl⟩
                  obtain ⟨G', hG'⟩ : ∃ G', G' = G := ⟨_, rfl⟩
                  obtain ⟨L', hL'⟩ : ∃ L', L' = L := ⟨_, rfl⟩
                  rw [← hE', ← hG', ← hL'] at B5
                  have hlen' : L'.length ≤ j + 1 := by rw [hL']; omega
                  clear hE' hG' hL' q3 B5x hob5x s5x p5x k5 k6 k7
                  obtain ⟨b', hb'e⟩ : ∃ b', b' = b := ⟨_, rfl⟩
                  obtain ⟨m', hm'e⟩ : ∃ m', m' = m := ⟨_, rfl⟩
                  obtain ⟨n', hn'e⟩ : ∃ n', n' = n := ⟨_, rfl⟩
                  rw [← hb'e, ← hm'e, ← hn'e] at B5
                  rw [← hb'e]
                  clear hb'e hm'e hn'e
                  generalize w7 = w5b at *
                  clear B4 hob4 hob
                  have n1 := bneT 0
                  go_wp2
                  obtain ⟨A5, cap5, hv5, hcap5, hA5, rd5⟩ := own_rd B5.ref.2.1
                  subst hv5
                  have s5 := cell_of hob5 1 rfl
                  have p5 := cell_of hob5 2 rfl
                  have t5 := cell_of B5.ref.1 0 rfl
                  have hEL : Hid (L'.length = E'.length) := Hid.of (B5.rl.len B5.tb.2.1.ke)
                  have hkeys : Hid (L'.map (·.1) = Tab.sortedKeys E') := Hid.of (B5.rl.keys B5.tb.2.1.ke)
                  have hE1 : E'.length ≤ 1000000 := by have := hEL.out; omega
                  have hL1 : L'.length ≤ 1000000 := by omega
                  obtain ⟨nn, hnn⟩ : ∃ nn, E'.length = nn := ⟨_, rfl⟩
                  have hnn2 : L'.length = nn := by rw [hEL.out]; exact hnn
                  have hnn1 : nn ≤ 1000000 := by omega
                  have qL := fun (wx : World) (h : Tab.At wx b' m' n' E' G') => Tab.len_any wx b' m' n' E' G' h
                  rw [hnn] at qL
                  have qF := fun (wx : World) (h : At wx rb (.slice A5 L'.length cap5) L') => find_any wx rb _ L' vv h
                  rw [B5.rl.byV] at qF
                  have qH := fun (wx : World) (h : At wx rb (.slice A5 L'.length cap5) L') => holder_any wx rb _ L' pp h
                  rw [B5.rl.byP B5.tb.2.1] at qH
                  have qf := fun (wx : World) (h : Tab.At wx b' m' n' E' G') => Tab.find_any wx b' m' n' E' G' vv h
                  have qh := fun (wx : World) (h : Tab.At wx b' m' n' E' G') => Tab.holder_any wx b' m' n' E' G' pp h
                  have qA := fun (wx : World) (h : Tab.At wx b' m' n' E' G') => Tab.all_any wx b' m' n' E' G' h B5.tb.2.1 hE1
                  have qR := fun (wx : World) (h : At wx rb (.slice A5 L'.length cap5) L') => all_any wx rb _ L' h hL1
                  rw [hkeys.out] at qR
                  rw [hnn] at qA
                  rw [hnn2] at qF qH qR
                  rw [hnn2] at t5
                  generalize Tab.fnd E' vv = f1 at *
                  generalize Tab.fnd G' pp = f2 at *
                  have HN := Hid.of (And.intro hnn hnn2)
                  clear hnn hnn2
                  have n2 := bneT f1
                  have n3 := bneT f2
                  have n4 := bneT (nn : Int)
                  have hsl : (Tab.sortedKeys E').length = nn := by rw [Tab.sortedKeys_len]; exact HN.out.1
                  have B5' : BothN w.heap.size w5b b' m' n' rb A5 nn cap5 E' G' L' := by
                    have := B5
                    rw [HN.out.2] at this; exact this
                  go_region_held3 (fun wx => wx.cell? ⟨ob, 1, none⟩ = some (.int .i64 vv) ∧ wx.cell? ⟨ob, 2, none⟩ = some (.int .i64 pp) ∧ wx.cell? ⟨rb, 0, none⟩ = some (.slice A5 nn cap5))
                    (first | go_keep)
                    (first
                      | (go_at_call 22; refine (same_is _ A6 A7 cap6 cap7 (Tab.sortedKeys E') (Tab.sortedKeys E') nn nn true (by exact R1) (by exact R2) (by exact hsl) (by exact hsl) (by exact hnn1) (by exact hnn1) (by simp)).mono ?_; rintro e w9 ⟨rfl, k9⟩; have B9 := B7.old k9; have hob9 := k9.at hob7 (fun x => x); have s9 := cell_of hob9 1 rfl; have p9 := cell_of hob9 2 rfl; have t9 := cell_of B9.ref.1 0 rfl; have K9 := K7.trans k9)
                      | (go_at_call 24; have kk := k6; refine (qR _ (by exact B6.ref)).mono ?_; rintro e w7 ⟨v7, rfl, o7, k7⟩; obtain ⟨A7, cap7, rfl, hcap7, hA7, rd7⟩ := own_rd o7.1; have R1 := rd6.old k7; have R2 := rd7; have B7 := B6.old k7; have hob7 := k7.at hob6 (fun x => x); have s7 := cell_of hob7 1 rfl; have p7 := cell_of hob7 2 rfl; have t7 := cell_of B7.ref.1 0 rfl; have K7 := (K5.trans k6.of_drew).trans k7)
                      | (go_at_call 23; have kk := j6; refine (qA _ (by exact B6.tb.1)).mono ?_; rintro e w7 ⟨v6, rfl, o6, f6, k7⟩; obtain ⟨A6, cap6, rfl, hcap6, hA6, rd6⟩ := own_rd o6; have R1 := rd6; have R2 := rd7.old k7; have B7 := B6.old k7; have hob7 := k7.at hob6 (fun x => x); have s7 := cell_of hob7 1 rfl; have p7 := cell_of hob7 2 rfl; have t7 := cell_of B7.ref.1 0 rfl; have K7 := (K5.trans j6.of_drew).trans k7)
                      | (go_at_call 23; refine (qA _ (by exact B5'.tb.1)).mono ?_; rintro e w6 ⟨v6, rfl, o6, f6, k6⟩; obtain ⟨A6, cap6, rfl, hcap6, hA6, rd6⟩ := own_rd o6; have B6 := B5'.old k6.of_drew; have hob6 := k6.of_drew.at hob5 (fun x => x); have s6 := cell_of hob6 1 rfl; have p6 := cell_of hob6 2 rfl; have t6 := cell_of B6.ref.1 0 rfl)
                      | (go_at_call 24; refine (qR _ (by exact B5'.ref)).mono ?_; rintro e w6 ⟨v7, rfl, o7, j6⟩; obtain ⟨A7, cap7, rfl, hcap7, hA7, rd7⟩ := own_rd o7.1; have B6 := B5'.old j6.of_drew; have hob6 := j6.of_drew.at hob5 (fun x => x); have s6 := cell_of hob6 1 rfl; have p6 := cell_of hob6 2 rfl; have t6 := cell_of B6.ref.1 0 rfl)
                      | (go_at_call 18; refine (qF _ (by exact B5'.ref)).mono ?_; rintro e wx ⟨rfl, rfl⟩)
                      | (go_at_call 20; refine (qH _ (by exact B5'.ref)).mono ?_; rintro e wx ⟨rfl, rfl⟩)
                      | (go_at_call 17; refine (qf _ (by exact B5'.tb.1)).mono ?_; rintro e wx ⟨rfl, rfl⟩)
                      | (go_at_call 19; refine (qh _ (by exact B5'.tb.1)).mono ?_; rintro e wx ⟨rfl, rfl⟩)
                      | (go_at_call 21; refine (qL _ (by exact B5'.tb.1)).mono ?_; rintro e wx ⟨rfl, rfl⟩))
                  all_goals
                    go_wp2
                    go_roundw
                    case rel => exact ⟨j + 1, b', m', n', _, E', G', L', by omega, by go_num, rfl, B9, by omega, K9⟩
                    case measure => simp [intOf]; omega
                · have hpb' : decide (pp > 8192) = true := by simp; omega
                  go_wp2
                  go_roundw
                  case rel => exact ⟨j + 1, b, m, n, _, E, G, L, by omega, by go_num, rfl, B4, by omega, kp.trans k4⟩
                  case measure => simp [intOf]; omega
              · have e4 : (kind == 4) = false := by simpa using hk4
                clear hk4
                have n1 := bneT 0
                go_wp2_with fail
                refine (Tab.copy_any _ b m n E G B4.tb.1).mono ?_
                rintro e w5 ⟨b', m', n', rfl, r5, f1, f2, f3, k5⟩
                have hs5 := k5.size
                have hltr := r5.lt
                have hlt4 := B4.lt
                have hbb := B4.tb.2.2
                have hdd := B4.hd
                have hob5x := k5.at hob4 (fun x => x)
                have p5x := cell_of hob5x 2 rfl
                have tb5 := B4.tb.old k5
                go_wp2_with fail
                refine (Tab.tb_map 300 pp tb5).mono ?_
                rintro e w6 ⟨rfl, r6, k6⟩
                have hob5 := k6.at hob5x (by omega)
                have B5 : Both w.heap.size w6 b' m' n' rb v E G L :=
                  ⟨⟨r5.keep k6 (by omega) (by omega) (by omega), B4.tb.2.1, by omega, by omega, by omega⟩, (B4.ref.old k5).keep k6 (by have := B4.hd; omega) (fun g hg => by have := B4.hv g hg; omega), B4.rl, B4.hr, by omega, fun g hg => by have := B4.hv g hg; have := B4.lt.2.2.2.2 g hg; omega⟩
                have K5 := ((kp.trans k4).trans k5).trans' k6 (fun x hx hl => by have := B4.tb.2.2; omega)
                obtain ⟨E', hE'⟩ : ∃ E', E' = E := ⟨_, rfl⟩
                obtain ⟨G', hG'⟩ : ∃ G', G' = G := ⟨_, rfl⟩
                obtain ⟨L', hL'⟩ : ∃ L', L' = L := ⟨_, rfl⟩
                rw [← hE', ← hG', ← hL'] at B5
                have hlen' : L'.length ≤ j + 1 := by rw [hL']; omega
                clear hE' hG' hL' r5 k5 k6 r6 tb5 hob5x p5x f1 f2 f3 hs5 hltr hlt4 hbb hdd
                generalize w6 = w5b at *
                clear B4 hob4 hob
                go_wp2
                obtain ⟨A5, cap5, hv5, hcap5, hA5, rd5⟩ := own_rd B5.ref.2.1
                subst hv5
                have s5 := cell_of hob5 1 rfl
                have p5 := cell_of hob5 2 rfl
                have t5 := cell_of B5.ref.1 0 rfl
                have hEL : Hid (L'.length = E'.length) := Hid.of (B5.rl.len B5.tb.2.1.ke)
                have hkeys : Hid (L'.map (·.1) = Tab.sortedKeys E') := Hid.of (B5.rl.keys B5.tb.2.1.ke)
                have hE1 : E'.length ≤ 1000000 := by have := hEL.out; omega
                have hL1 : L'.length ≤ 1000000 := by omega
                obtain ⟨nn, hnn⟩ : ∃ nn, E'.length = nn := ⟨_, rfl⟩
                have hnn2 : L'.length = nn := by rw [hEL.out]; exact hnn
                have hnn1 : nn ≤ 1000000 := by omega
                have qL := fun (wx : World) (h : Tab.At wx b' m' n' E' G') => Tab.len_any wx b' m' n' E' G' h
                rw [hnn] at qL
                have qF := fun (wx : World) (h : At wx rb (.slice A5 L'.length cap5) L') => find_any wx rb _ L' vv h
                rw [B5.rl.byV] at qF
                have qH := fun (wx : World) (h : At wx rb (.slice A5 L'.length cap5) L') => holder_any wx rb _ L' pp h
                rw [B5.rl.byP B5.tb.2.1] at qH
                have qf := fun (wx : World) (h : Tab.At wx b' m' n' E' G') => Tab.find_any wx b' m' n' E' G' vv h
                have qh := fun (wx : World) (h : Tab.At wx b' m' n' E' G') => Tab.holder_any wx b' m' n' E' G' pp h
                have qA := fun (wx : World) (h : Tab.At wx b' m' n' E' G') => Tab.all_any wx b' m' n' E' G' h B5.tb.2.1 hE1
                have qR := fun (wx : World) (h : At wx rb (.slice A5 L'.length cap5) L') => all_any wx rb _ L' h hL1
                rw [hkeys.out] at qR
                rw [hnn] at qA
                rw [hnn2] at qF qH qR
                rw [hnn2] at t5
                generalize Tab.fnd E' vv = f1 at *
                generalize Tab.fnd G' pp = f2 at *
                have HN := Hid.of (And.intro hnn hnn2)
                clear hnn hnn2
                have n2 := bneT f1
                have n3 := bneT f2
                have n4 := bneT (nn : Int)
                have hsl : (Tab.sortedKeys E').length = nn := by rw [Tab.sortedKeys_len]; exact HN.out.1
                have B5' : BothN w.heap.size w5b b' m' n' rb A5 nn cap5 E' G' L' := by
                  have := B5
                  rw [HN.out.2] at this; exact this
                go_region_held3 (fun wx => wx.cell? ⟨ob, 1, none⟩ = some (.int .i64 vv) ∧ wx.cell? ⟨ob, 2, none⟩ = some (.int .i64 pp) ∧ wx.cell? ⟨rb, 0, none⟩ = some (.slice A5 nn cap5))
                  (first | go_keep)
                  (first
                    | (go_at_call 22; refine (same_is _ A6 A7 cap6 cap7 (Tab.sortedKeys E') (Tab.sortedKeys E') nn nn true (by exact R1) (by exact R2) (by exact hsl) (by exact hsl) (by exact hnn1) (by exact hnn1) (by simp)).mono ?_; rintro e w9 ⟨rfl, k9⟩; have B9 := B7.old k9; have hob9 := k9.at hob7 (fun x => x); have s9 := cell_of hob9 1 rfl; have p9 := cell_of hob9 2 rfl; have t9 := cell_of B9.ref.1 0 rfl; have K9 := K7.trans k9)
                    | (go_at_call 24; have kk := k6; refine (qR _ (by exact B6.ref)).mono ?_; rintro e w7 ⟨v7, rfl, o7, k7⟩; obtain ⟨A7, cap7, rfl, hcap7, hA7, rd7⟩ := own_rd o7.1; have R1 := rd6.old k7; have R2 := rd7; have B7 := B6.old k7; have hob7 := k7.at hob6 (fun x => x); have s7 := cell_of hob7 1 rfl; have p7 := cell_of hob7 2 rfl; have t7 := cell_of B7.ref.1 0 rfl; have K7 := (K5.trans k6.of_drew).trans k7)
                    | (go_at_call 23; have kk := j6; refine (qA _ (by exact B6.tb.1)).mono ?_; rintro e w7 ⟨v6, rfl, o6, f6, k7⟩; obtain ⟨A6, cap6, rfl, hcap6, hA6, rd6⟩ := own_rd o6; have R1 := rd6; have R2 := rd7.old k7; have B7 := B6.old k7; have hob7 := k7.at hob6 (fun x => x); have s7 := cell_of hob7 1 rfl; have p7 := cell_of hob7 2 rfl; have t7 := cell_of B7.ref.1 0 rfl; have K7 := (K5.trans j6.of_drew).trans k7)
                    | (go_at_call 23; refine (qA _ (by exact B5'.tb.1)).mono ?_; rintro e w6 ⟨v6, rfl, o6, f6, k6⟩; obtain ⟨A6, cap6, rfl, hcap6, hA6, rd6⟩ := own_rd o6; have B6 := B5'.old k6.of_drew; have hob6 := k6.of_drew.at hob5 (fun x => x); have s6 := cell_of hob6 1 rfl; have p6 := cell_of hob6 2 rfl; have t6 := cell_of B6.ref.1 0 rfl)
                    | (go_at_call 24; refine (qR _ (by exact B5'.ref)).mono ?_; rintro e w6 ⟨v7, rfl, o7, j6⟩; obtain ⟨A7, cap7, rfl, hcap7, hA7, rd7⟩ := own_rd o7.1; have B6 := B5'.old j6.of_drew; have hob6 := j6.of_drew.at hob5 (fun x => x); have s6 := cell_of hob6 1 rfl; have p6 := cell_of hob6 2 rfl; have t6 := cell_of B6.ref.1 0 rfl)
                    | (go_at_call 18; refine (qF _ (by exact B5'.ref)).mono ?_; rintro e wx ⟨rfl, rfl⟩)
                    | (go_at_call 20; refine (qH _ (by exact B5'.ref)).mono ?_; rintro e wx ⟨rfl, rfl⟩)
                    | (go_at_call 17; refine (qf _ (by exact B5'.tb.1)).mono ?_; rintro e wx ⟨rfl, rfl⟩)
                    | (go_at_call 19; refine (qh _ (by exact B5'.tb.1)).mono ?_; rintro e wx ⟨rfl, rfl⟩)
                    | (go_at_call 21; refine (qL _ (by exact B5'.tb.1)).mono ?_; rintro e wx ⟨rfl, rfl⟩))
                all_goals
                  go_wp2
                  go_roundw
                  case rel => exact ⟨j + 1, b', m', n', _, E', G', L', by omega, by go_num, rfl, B9, by omega, K9⟩
                  case measure => simp [intOf]; omega
      · have hk1 : decide ((j : Int) < xs.length) = false := by simp; omega
        go_wp2
        go_ret
        exact ⟨rfl, kp.below⟩
  · have hb' : decide ((xs.length : Int) > 200) = true := by simp; omega
    go_enter Try.func3, Try.ntmps3
    go_wp2_with fail
    refine (Tab.awake_any w).mono ?_
    rintro e w1 ⟨rfl, k1⟩
    go_wp2_with fail
    refine (Tab.awake_any w1).mono ?_
    rintro e w2 ⟨rfl, k2⟩
    go_wp2
    go_ret
    exact ⟨rfl, (k1.trans k2).below⟩
end RTab
end Go.Proofs.Ytcjdejhjbelggaa
