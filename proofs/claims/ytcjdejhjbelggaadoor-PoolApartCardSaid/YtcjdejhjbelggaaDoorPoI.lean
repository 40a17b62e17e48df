/- PoolPlays: the walk. -/
import Derived.Test.YtcjdejhjbelggaaDoorPoH
import Derived.Test.YtcjdejhjbelggaaDoorArgs
set_option linter.unusedVariables false
set_option linter.unusedSimpArgs false
namespace Go.Proofs.YtcjdejhjbelggaaDoor
open Go.RowKit Go.ChangeMaps
namespace Po
/-- A call of the laws' scripts. -/
structure XO where
  kind : Int
  o : Int
  k : Int
def XO.enc (x : XO) : List Value := [.int .i64 x.kind, .int .i64 x.o, .int .i64 x.k]
def xos (L : List XO) : List Value := L.flatMap XO.enc
theorem rxo {w : World} {A : Option Addr} {xs : List XO} (h : Rd w A (xos xs)) (j : Nat) (hj : j < xs.length) :
    ∃ b o s x1 x2 x3, xs[j]? = some ⟨x1, x2, x3⟩ ∧ A = some ⟨b, o, s⟩ ∧ w.cell? ((⟨b, o, s⟩ : Addr).add (j * 3)) = some (.int .i64 x1) ∧ w.cell? ⟨((⟨b, o, s⟩ : Addr).add (j * 3)).block, ((⟨b, o, s⟩ : Addr).add (j * 3)).off + 1, none⟩ = some (.int .i64 x2) ∧
      w.cell? ⟨((⟨b, o, s⟩ : Addr).add (j * 3)).block, ((⟨b, o, s⟩ : Addr).add (j * 3)).off + 2, none⟩ = some (.int .i64 x3) := by
  have e := List.getElem?_eq_getElem hj
  have g := flatMap_get XO.enc 3 (fun _ => rfl) xs j _ e
  obtain ⟨ad, rfl, h0⟩ := h _ _ (g 0 (by omega))
  obtain ⟨a1, q, h1⟩ := h _ _ (g 1 (by omega)); cases q
  obtain ⟨a1, q, h2⟩ := h _ _ (g 2 (by omega)); cases q
  exact ⟨_, _, _, _, _, _, e, rfl, h0, cell_field (by omega) h1, cell_field (by omega) h2⟩
theorem dec_xo {w : World} {n : Nat} (cs : List Value) (h : All2 (Leaf.ok w (n + 1)) [.int .i64, .int .i64, .int .i64] cs) : ∃ x : XO, True ∧ cs = x.enc := by
  obtain ⟨b1, bs1, rfl, h1, g1⟩ := h.inv_cons
  obtain ⟨b2, bs2, rfl, h2, g2⟩ := g1.inv_cons
  obtain ⟨b3, bs3, rfl, h3, g3⟩ := g2.inv_cons
  obtain rfl := g3.inv_nil
  obtain ⟨x1, rfl, _⟩ := h1
  obtain ⟨x2, rfl, _⟩ := h2
  obtain ⟨x3, rfl, _⟩ := h3
  exact ⟨⟨x1, x2, x3⟩, trivial, rfl⟩
theorem xos_arg {w : World} {n : Nat} {v : Value} (h : Leaf.ok w (n + 2) (.sl 3 [.int .i64, .int .i64, .int .i64]) v) :
    ∃ A cap xs, v = .slice A (xs : List XO).length cap ∧ xs.length ≤ maxLen ∧ Rd w A (xos xs) := by
  obtain ⟨A, cap, xs, hv, h1, h2, h3⟩ := rows_list w (n + 1) 3 _ XO.enc (fun _ => True) (fun _ => rfl) dec_xo h
  exact ⟨A, cap, xs, hv, h1, h3⟩
theorem winR_in (Of : List Int) (i : Nat) (h : i < 8) : winR Of i = win Of i := by unfold winR; rw [if_pos (by omega)]
set_option maxRecDepth 100000 in
set_option maxHeartbeats 4000000 in
theorem plays_any (w : World) (n : Int) (A : Option Addr) (cap : Nat) (xs : List XO) (m : Nat) (hm : xs.length = m) (hml : m ≤ maxLen) (hr : Rd w A (xos xs)) (hT : Sh.Tab w) :
    Calls Tryd.prog 5 #[.int .i64 n, .slice A m cap] w fun e w' => e = .returned (.bool true) ∧ Keeps (fun _ => False) w w' := by
  unfold maxLen at hml
  have qa := fun wx (k : Keeps (fun _ => False) w wx) => awake_any wx (hT.old k)
  by_cases hn : 1 ≤ n ∧ n ≤ 32
  · obtain ⟨n, rfl⟩ : ∃ k : Nat, n = k := ⟨n.toNat, by omega⟩
    have qn := new_any w n (by omega) (by omega) hT
    have qr := fun wx => rnew_any wx n (by omega) (by omega)
    have HT := Hid.of hT
    have HR := Hid.of hr
    clear hn hT hr
    go_enter Tryd.func5, Tryd.ntmps5
    go_wp2_with fail
    refine qn.mono ?_
    rintro e w1 ⟨p, s, v, V, rfl, a1, f1, -, k1⟩
    have vl1 := a1.vlt
    go_wp2_with fail
    refine (qr w1).mono ?_
    rintro e w2 ⟨q, u, rfl, r2, f2, k2⟩
    have j2 : J w2 p s v V q u (List.replicate n (-1)) := by
      have hg := HT.out.lt
      have hs := k1.size
      refine ⟨a1.old k2, r2, fun x hx hx' => ?_, fun i hi g hg hx => ?_, good_new n, (HT.out.old k1).old k2, fun hx => ?_⟩
      · have := a1.lt hx; have := f2 x hx'; omega
      · have := a1.vlt i hi g hg; have := f2 g hx; omega
      · have := f2 _ hx; omega
    have fr2 : ∀ x, JF p s v q u x → w.heap.size ≤ x := fun x hx => by
      rcases hx with hx | hx
      · exact f1 x hx
      · exact Nat.le_trans k1.size (f2 x hx)
    have K2 := k1.trans k2
    have qa2 := qa w2 K2
    have HJ := Hid.of (And.intro j2 (And.intro fr2 K2))
    clear qn qr a1 f1 k1 r2 f2 k2 j2 fr2 K2 vl1
    go_wp2_with fail
    refine qa2.mono ?_
    rintro e w3 ⟨rfl, k3⟩
    have HK3 := Hid.of (HJ.out.2.2.trans k3)
    have qa3 := qa w3 HK3.out
    have HJ3 := Hid.of (HJ.out.1.old k3)
    have HFR := Hid.of HJ.out.2.1
    clear qa2 k3 HJ
    by_cases hbig : 1000 < m
    · have hd : decide ((1000 : Int) < (m : Int)) = true := by simp; omega
      go_wp2_with fail
      refine qa3.mono ?_
      rintro e w4 ⟨rfl, k4⟩
      have HK4 := Hid.of (HK3.out.trans k4)
      clear qa3 k4
      go_wp2
      go_ret
      exact ⟨rfl, HK4.out⟩
    · have hd : decide ((1000 : Int) < (m : Int)) = false := by simp; omega
      have hm1 : m ≤ 1000 := by omega
      clear hbig qa3 qa
      go_wp2
      go_loopw [5, 52] (fun pp i wr => ∃ (j p s : Nat) (v : Value) (V : Nat → Value) (Of : List Int), j ≤ m ∧ i = .int .i64 j ∧ pp = .pointer (some ⟨p, 0, none⟩) ∧ J wr p s v V q u Of ∧ Hid (∀ x, JF p s v q u x → w.heap.size ≤ x) ∧ Keeps (fun _ => False) w wr) (fun _ i _ => m - (intOf i).toNat)
      case atStart => exact ⟨0, p, s, v, V, _, Nat.zero_le _, rfl, rfl, HJ3.out, HFR, HK3.out⟩
      case round =>
        clear HJ3 HFR HK3 hd
        obtain ⟨j, p, s, v, V, Of, hj, rfl, rfl, hJ, HFR, hK⟩ := hrel
        by_cases hlt : j < m
        · obtain ⟨b1, o1, s1, x1, x2, x3, hg, rfl, d0, d1, d2⟩ := rxo (HR.out.old hK) j (by omega)
          obtain ⟨w4, hw4⟩ : ∃ w4, wr.alloc (.cells #[.int .i64 x1, .int .i64 x2, .int .i64 x3] 30) = w4 := ⟨_, rfl⟩
          have k4 : Keeps (fun _ => False) wr w4 := by rw [← hw4]; exact (Keeps.refl _ _).alloc _
          have hob : w4.heap[wr.heap.size]? = some (.cells #[.int .i64 x1, .int .i64 x2, .int .i64 x3] 30 (0, 0)) := by rw [← hw4]; exact alloc_new _ _
          obtain ⟨ob, hoe⟩ : ∃ ob, wr.heap.size = ob := ⟨_, rfl⟩
          rw [hoe] at hob
          have hobf : ∀ x, JF p s v q u x → x < ob := fun x hx => by have := hJ.lt hx; omega
          have HJ4 := Hid.of (And.intro (hJ.old k4) (And.intro (hK.trans k4) (And.intro hob hobf)))
          have e0 := cell_of (v := .int .i64 x1) hob 0 rfl
          have HOE := Hid.of hoe
          have hwo : w.heap.size ≤ ob := by have := hK.size; omega
          have hlti : (j : Int) < (m : Int) := by omega
          have hkc : x1 < 1 ∨ (1 ≤ x1 ∧ 3 < x1) ∨ (1 ≤ x1 ∧ x1 ≤ 3) := by omega
          clear hg hJ hK k4 hobf hob
          try rw [hoe]
          rcases hkc with h1 | ⟨h1, h2⟩ | ⟨h1, h2⟩
          · have g1 : decide (x1 < 1) = true := by simpa using h1
            have qc := copy_any w4 p s v V Of HJ4.out.1.a HJ4.out.1.T
            go_wp2_with fail
            refine qc.mono ?_
            rintro e w41 ⟨p', s', v', rfl, a41, f41, k41⟩
            have qg := grant_any w41 p s v V Of 0 1 (HJ4.out.1.a.old k41) (HJ4.out.1.T.old k41)
            have HA := Hid.of (And.intro a41 (And.intro f41 k41))
            clear qc a41 f41 k41 e0
            go_wp2_with fail
            refine qg.mono ?_
            rintro e w5 ⟨ua, V2, rfl, o5, -, k5, -⟩
            obtain ⟨Aa, ca, rfl, -, -, -⟩ := o5.rd
            have HJ5 : Hid (J w5 p' s' v' V q u Of ∧ (∀ x, JF p' s' v' q u x → w.heap.size ≤ x) ∧ Keeps (fun _ => False) w w5 ∧ w5.heap[ob]? = some (.cells #[.int .i64 x1, .int .i64 x2, .int .i64 x3] 30 (0, 0)) ∧ (∀ x, JF p' s' v' q u x → x ≠ ob)) := Hid.of (by
              obtain ⟨a41, f41, k41⟩ := HA.out
              obtain ⟨j4, K4, hob, hobf⟩ := HJ4.out
              have hob4 := lt_of hob
              have h1 : ∀ x, Fp p' s' v' x → ¬ Fp p s v x := fun x hx hy => by have := f41 x hx; have := j4.a.lt hy; omega
              refine ⟨⟨a41.keep k5 h1 (fun i hi g hg hy => a41.apart i hi g hg (by exact absurd hy (j4.a.apart i hi g hg))), (j4.r.old k41).keep k5 (fun x hx hy => j4.d x hy hx), fun x hx hy => ?_, j4.vr, j4.g, (j4.T.old k41).keep k5 j4.a.off, j4.tr⟩, fun x hx => ?_, (K4.trans k41).trans' k5 (fun x hx hl => by have := HFR.out x (.inl hx); omega), k5.at (k41.at hob (fun x => x)) (fun hx => by have := hobf ob (.inl hx); omega), fun x hx e => ?_⟩
              · have := f41 x hx; have := j4.r.lt hy; omega
              · rcases hx with hx | hx
                · have := f41 x hx; have := K4.size; omega
                · exact HFR.out x (.inr hx)
              · subst e
                rcases hx with hx | hx
                · have := f41 _ hx; omega
                · have := hobf _ (.inr hx); omega)
            clear HA HJ4 HFR qg o5 k5
            obtain ⟨p, rfl⟩ : ∃ z, z = p' := ⟨_, rfl⟩
            obtain ⟨s, rfl⟩ : ∃ z, z = s' := ⟨_, rfl⟩
            obtain ⟨v, rfl⟩ : ∃ z, z = v' := ⟨_, rfl⟩
            go_wp2
            obtain ⟨j5, fr5, K5, hob5, nb5⟩ := HJ5.out
            have c0 := cell_of (v := .int .i64 x1) hob5 0 rfl
            have c1 := cell_of (v := .int .i64 x2) hob5 1 rfl
            have c2 := cell_of (v := .int .i64 x3) hob5 2 rfl
            have qd := done_any w5.drew p s v V q u Of x1 x2 x3 (j5.old ((Keeps.refl _ _).drew))
            obtain ⟨O, hO⟩ : ∃ O, doneO Of x1 x2 x3 = O := ⟨_, rfl⟩
            rw [hO] at qd
            obtain ⟨F, hF⟩ : ∃ F, (win O (-1)).length = F := ⟨_, rfl⟩
            obtain ⟨W, hW⟩ : ∃ W, ownerL O x3 = W := ⟨_, rfl⟩
            have m1 : ((F : Int) != (F : Int)) = false := by simp
            have m2 : (W != W) = false := by simp
            have HFF := Hid.of hF
            have HWW := Hid.of hW
            clear hO hF hW
            go_region_held3 (fun wx => wx.cell? ⟨ob, 0, none⟩ = some (.int .i64 x1) ∧ wx.cell? ⟨ob, 1, none⟩ = some (.int .i64 x2) ∧ wx.cell? ⟨ob, 2, none⟩ = some (.int .i64 x3))
              (first | exact ⟨c0, c1, c2⟩ | exact ⟨y0, y1, y2⟩ | exact ⟨z0, z1, z2⟩ | exact ⟨t0, t1, t2⟩)
              (first
                | (go_at_call 20; refine qd.mono ?_; rintro e w6 ⟨rfl, V6, j6, k6, b6⟩; have hob6 := k6.of_drew.at hob5 (fun hx => nb5 ob hx rfl); have t0 := cell_of (v := .int .i64 x1) hob6 0 rfl; have t1 := cell_of (v := .int .i64 x2) hob6 1 rfl; have t2 := cell_of (v := .int .i64 x3) hob6 2 rfl)
                | (go_at_call 17; have qf := free_any w6 p s v V6 O j6.a; rw [HFF.out] at qf; refine qf.mono ?_; rintro e wx ⟨rfl, rfl⟩)
                | (go_at_call 21; refine (rwindow_any w6 q u O (-1) j6.r).mono ?_; rintro e w7 ⟨v7, rfl, o7, k7⟩; rw [HFF.out] at o7; obtain ⟨A7, cp7, rfl, -, -, -⟩ := o7.rd; have hob7 := k7.at hob6 (fun x => x); have j7 := j6.old k7; have z0 := cell_of (v := .int .i64 x1) hob7 0 rfl; have z1 := cell_of (v := .int .i64 x2) hob7 1 rfl; have z2 := cell_of (v := .int .i64 x3) hob7 2 rfl)
                | (go_at_call 13; have qo := owner_any w7 p s v V6 O x3 j7.a j7.g; rw [HWW.out] at qo; refine qo.mono ?_; rintro e w8 ⟨rfl, k8⟩; have hob8 := k8.at hob7 (fun x => x); have j8 := j7.old k8; have y0 := cell_of (v := .int .i64 x1) hob8 0 rfl; have y1 := cell_of (v := .int .i64 x2) hob8 1 rfl; have y2 := cell_of (v := .int .i64 x3) hob8 2 rfl)
                | (go_at_call 22; have qo2 := rowner_any w8 q u O x3 j8.r; rw [HWW.out] at qo2; refine qo2.mono ?_; rintro e wx ⟨rfl, rfl⟩))
            have K8 : Keeps (fun _ => False) w w8 := ((K5.trans' k6.of_drew (fun x hx hl => by have := fr5 x hx; omega)).trans k7).trans k8
            have HJ8 := Hid.of (And.intro j8 (And.intro fr5 K8))
            clear j5 fr5 K5 hob5 nb5 j6 k6 b6 hob6 o7 k7 hob7 j7 k8 hob8 j8 K8 qd HJ5 c0 c1 c2 t0 t1 t2 z0 z1 z2 y0 y1 y2
            go_wp2
            go_loopw [93] (fun i wx => ∃ z : Nat, z ≤ 8 ∧ i = .int .i64 z ∧ J wx p s v V6 q u O ∧ Keeps (fun _ => False) w wx) (fun i _ => 8 - (intOf i).toNat)
            case atStart => exact ⟨0, by omega, rfl, HJ8.out.1, HJ8.out.2.2⟩
            case round =>
              obtain ⟨z, hz, rfl, hJ, hK⟩ := hrel
              by_cases hz8 : z < 8
              · have hzi : (z : Int) < 8 := by omega
                have qw := window_any wr p s v V6 O z hJ.a
                rw [winR_in O z hz8] at qw
                have hwl := win_len O z
                have hle := hJ.a.len
                obtain ⟨Lz, hLz⟩ : ∃ L, win O z = L := ⟨_, rfl⟩
                rw [hLz] at qw hwl
                have HLz := Hid.of hLz
                have hl32 : Lz.length ≤ 32 := by omega
                have HJz := Hid.of (And.intro hJ hK)
                clear hJ hK hLz hwl hle
                go_wp2_with fail
                refine qw.mono ?_
                rintro e w9 ⟨v9, rfl, o9, k9⟩
                obtain ⟨A9, cp9, rfl, -, -, r9⟩ := o9.rd
                have j9 := HJz.out.1.old k9
                have qr := rwindow_any w9 q u O z j9.r
                rw [HLz.out] at qr
                have HJ9 := Hid.of (And.intro j9 (HJz.out.2.trans k9))
                clear qw o9 k9 j9 HJz
                go_wp2_with fail
                refine qr.mono ?_
                rintro e w10 ⟨v10, rfl, o10, k10⟩
                obtain ⟨A10, cp10, rfl, -, -, r10⟩ := o10.rd
                have q3 := same_is w10 A9 A10 cp9 cp10 (zs Lz) (zs Lz) Lz.length Lz.length true (r9.old k10) r10 (zs_length _) (zs_length _) (by omega) (by omega) (by simp)
                have HJ10 := Hid.of (And.intro (HJ9.out.1.old k10) (HJ9.out.2.trans k10))
                clear qr o10 k10 HJ9 r9 r10
                go_wp2_with fail
                refine q3.mono ?_
                rintro e w11 ⟨rfl, k11⟩
                have HJ11 := Hid.of (And.intro (HJ10.out.1.old k11) (HJ10.out.2.trans k11))
                clear q3 k11 HJ10
                go_wp2
                go_roundw
                case rel => exact ⟨z + 1, by omega, by go_num, HJ11.out.1, HJ11.out.2⟩
                case measure => simp [intOf]; omega
              · obtain rfl : z = 8 := by omega
                have HE := Hid.of (And.intro hJ hK)
                have HFR8 := Hid.of HJ8.out.2.1
                clear hJ hK HJ8
                go_wp2
                go_roundw
                case rel => exact ⟨j + 1, p, s, v, V6, O, by omega, by go_num, rfl, HE.out.1, HFR8, HE.out.2⟩
                case measure => simp [intOf]; omega
          · have g1 : decide (x1 < 1) = false := by simp; omega
            have g2 : decide (3 < x1) = true := by simpa using h2
            have qc := copy_any w4 p s v V Of HJ4.out.1.a HJ4.out.1.T
            go_wp2_with fail
            refine qc.mono ?_
            rintro e w41 ⟨p', s', v', rfl, a41, f41, k41⟩
            have qg := grant_any w41 p s v V Of 0 1 (HJ4.out.1.a.old k41) (HJ4.out.1.T.old k41)
            have HA := Hid.of (And.intro a41 (And.intro f41 k41))
            clear qc a41 f41 k41 e0
            go_wp2_with fail
            refine qg.mono ?_
            rintro e w5 ⟨ua, V2, rfl, o5, -, k5, -⟩
            obtain ⟨Aa, ca, rfl, -, -, -⟩ := o5.rd
            have HJ5 : Hid (J w5 p' s' v' V q u Of ∧ (∀ x, JF p' s' v' q u x → w.heap.size ≤ x) ∧ Keeps (fun _ => False) w w5 ∧ w5.heap[ob]? = some (.cells #[.int .i64 x1, .int .i64 x2, .int .i64 x3] 30 (0, 0)) ∧ (∀ x, JF p' s' v' q u x → x ≠ ob)) := Hid.of (by
              obtain ⟨a41, f41, k41⟩ := HA.out
              obtain ⟨j4, K4, hob, hobf⟩ := HJ4.out
              have hob4 := lt_of hob
              have h1 : ∀ x, Fp p' s' v' x → ¬ Fp p s v x := fun x hx hy => by have := f41 x hx; have := j4.a.lt hy; omega
              refine ⟨⟨a41.keep k5 h1 (fun i hi g hg hy => a41.apart i hi g hg (by exact absurd hy (j4.a.apart i hi g hg))), (j4.r.old k41).keep k5 (fun x hx hy => j4.d x hy hx), fun x hx hy => ?_, j4.vr, j4.g, (j4.T.old k41).keep k5 j4.a.off, j4.tr⟩, fun x hx => ?_, (K4.trans k41).trans' k5 (fun x hx hl => by have := HFR.out x (.inl hx); omega), k5.at (k41.at hob (fun x => x)) (fun hx => by have := hobf ob (.inl hx); omega), fun x hx e => ?_⟩
              · have := f41 x hx; have := j4.r.lt hy; omega
              · rcases hx with hx | hx
                · have := f41 x hx; have := K4.size; omega
                · exact HFR.out x (.inr hx)
              · subst e
                rcases hx with hx | hx
                · have := f41 _ hx; omega
                · have := hobf _ (.inr hx); omega)
            clear HA HJ4 HFR qg o5 k5
            obtain ⟨p, rfl⟩ : ∃ z, z = p' := ⟨_, rfl⟩
            obtain ⟨s, rfl⟩ : ∃ z, z = s' := ⟨_, rfl⟩
            obtain ⟨v, rfl⟩ : ∃ z, z = v' := ⟨_, rfl⟩
            go_wp2
            obtain ⟨j5, fr5, K5, hob5, nb5⟩ := HJ5.out
            have c0 := cell_of (v := .int .i64 x1) hob5 0 rfl
            have c1 := cell_of (v := .int .i64 x2) hob5 1 rfl
            have c2 := cell_of (v := .int .i64 x3) hob5 2 rfl
            have qd := done_any w5.drew p s v V q u Of x1 x2 x3 (j5.old ((Keeps.refl _ _).drew))
            obtain ⟨O, hO⟩ : ∃ O, doneO Of x1 x2 x3 = O := ⟨_, rfl⟩
            rw [hO] at qd
            obtain ⟨F, hF⟩ : ∃ F, (win O (-1)).length = F := ⟨_, rfl⟩
            obtain ⟨W, hW⟩ : ∃ W, ownerL O x3 = W := ⟨_, rfl⟩
            have m1 : ((F : Int) != (F : Int)) = false := by simp
            have m2 : (W != W) = false := by simp
            have HFF := Hid.of hF
            have HWW := Hid.of hW
            clear hO hF hW
            go_region_held3 (fun wx => wx.cell? ⟨ob, 0, none⟩ = some (.int .i64 x1) ∧ wx.cell? ⟨ob, 1, none⟩ = some (.int .i64 x2) ∧ wx.cell? ⟨ob, 2, none⟩ = some (.int .i64 x3))
              (first | exact ⟨c0, c1, c2⟩ | exact ⟨y0, y1, y2⟩ | exact ⟨z0, z1, z2⟩ | exact ⟨t0, t1, t2⟩)
              (first
                | (go_at_call 20; refine qd.mono ?_; rintro e w6 ⟨rfl, V6, j6, k6, b6⟩; have hob6 := k6.of_drew.at hob5 (fun hx => nb5 ob hx rfl); have t0 := cell_of (v := .int .i64 x1) hob6 0 rfl; have t1 := cell_of (v := .int .i64 x2) hob6 1 rfl; have t2 := cell_of (v := .int .i64 x3) hob6 2 rfl)
                | (go_at_call 17; have qf := free_any w6 p s v V6 O j6.a; rw [HFF.out] at qf; refine qf.mono ?_; rintro e wx ⟨rfl, rfl⟩)
                | (go_at_call 21; refine (rwindow_any w6 q u O (-1) j6.r).mono ?_; rintro e w7 ⟨v7, rfl, o7, k7⟩; rw [HFF.out] at o7; obtain ⟨A7, cp7, rfl, -, -, -⟩ := o7.rd; have hob7 := k7.at hob6 (fun x => x); have j7 := j6.old k7; have z0 := cell_of (v := .int .i64 x1) hob7 0 rfl; have z1 := cell_of (v := .int .i64 x2) hob7 1 rfl; have z2 := cell_of (v := .int .i64 x3) hob7 2 rfl)
                | (go_at_call 13; have qo := owner_any w7 p s v V6 O x3 j7.a j7.g; rw [HWW.out] at qo; refine qo.mono ?_; rintro e w8 ⟨rfl, k8⟩; have hob8 := k8.at hob7 (fun x => x); have j8 := j7.old k8; have y0 := cell_of (v := .int .i64 x1) hob8 0 rfl; have y1 := cell_of (v := .int .i64 x2) hob8 1 rfl; have y2 := cell_of (v := .int .i64 x3) hob8 2 rfl)
                | (go_at_call 22; have qo2 := rowner_any w8 q u O x3 j8.r; rw [HWW.out] at qo2; refine qo2.mono ?_; rintro e wx ⟨rfl, rfl⟩))
            have K8 : Keeps (fun _ => False) w w8 := ((K5.trans' k6.of_drew (fun x hx hl => by have := fr5 x hx; omega)).trans k7).trans k8
            have HJ8 := Hid.of (And.intro j8 (And.intro fr5 K8))
            clear j5 fr5 K5 hob5 nb5 j6 k6 b6 hob6 o7 k7 hob7 j7 k8 hob8 j8 K8 qd HJ5 c0 c1 c2 t0 t1 t2 z0 z1 z2 y0 y1 y2
            go_wp2
            go_loopw [93] (fun i wx => ∃ z : Nat, z ≤ 8 ∧ i = .int .i64 z ∧ J wx p s v V6 q u O ∧ Keeps (fun _ => False) w wx) (fun i _ => 8 - (intOf i).toNat)
            case atStart => exact ⟨0, by omega, rfl, HJ8.out.1, HJ8.out.2.2⟩
            case round =>
              obtain ⟨z, hz, rfl, hJ, hK⟩ := hrel
              by_cases hz8 : z < 8
              · have hzi : (z : Int) < 8 := by omega
                have qw := window_any wr p s v V6 O z hJ.a
                rw [winR_in O z hz8] at qw
                have hwl := win_len O z
                have hle := hJ.a.len
                obtain ⟨Lz, hLz⟩ : ∃ L, win O z = L := ⟨_, rfl⟩
                rw [hLz] at qw hwl
                have HLz := Hid.of hLz
                have hl32 : Lz.length ≤ 32 := by omega
                have HJz := Hid.of (And.intro hJ hK)
                clear hJ hK hLz hwl hle
                go_wp2_with fail
                refine qw.mono ?_
                rintro e w9 ⟨v9, rfl, o9, k9⟩
                obtain ⟨A9, cp9, rfl, -, -, r9⟩ := o9.rd
                have j9 := HJz.out.1.old k9
                have qr := rwindow_any w9 q u O z j9.r
                rw [HLz.out] at qr
                have HJ9 := Hid.of (And.intro j9 (HJz.out.2.trans k9))
                clear qw o9 k9 j9 HJz
                go_wp2_with fail
                refine qr.mono ?_
                rintro e w10 ⟨v10, rfl, o10, k10⟩
                obtain ⟨A10, cp10, rfl, -, -, r10⟩ := o10.rd
                have q3 := same_is w10 A9 A10 cp9 cp10 (zs Lz) (zs Lz) Lz.length Lz.length true (r9.old k10) r10 (zs_length _) (zs_length _) (by omega) (by omega) (by simp)
                have HJ10 := Hid.of (And.intro (HJ9.out.1.old k10) (HJ9.out.2.trans k10))
                clear qr o10 k10 HJ9 r9 r10
                go_wp2_with fail
                refine q3.mono ?_
                rintro e w11 ⟨rfl, k11⟩
                have HJ11 := Hid.of (And.intro (HJ10.out.1.old k11) (HJ10.out.2.trans k11))
                clear q3 k11 HJ10
                go_wp2
                go_roundw
                case rel => exact ⟨z + 1, by omega, by go_num, HJ11.out.1, HJ11.out.2⟩
                case measure => simp [intOf]; omega
              · obtain rfl : z = 8 := by omega
                have HE := Hid.of (And.intro hJ hK)
                have HFR8 := Hid.of HJ8.out.2.1
                clear hJ hK HJ8
                go_wp2
                go_roundw
                case rel => exact ⟨j + 1, p, s, v, V6, O, by omega, by go_num, rfl, HE.out.1, HFR8, HE.out.2⟩
                case measure => simp [intOf]; omega
          · have g1 : decide (x1 < 1) = false := by simp; omega
            have g2 : decide (3 < x1) = false := by simp; omega
            obtain ⟨w5, hw5⟩ : ∃ z, w4 = z := ⟨_, rfl⟩
            have HJ5 : Hid (J w5 p s v V q u Of ∧ (∀ x, JF p s v q u x → w.heap.size ≤ x) ∧ Keeps (fun _ => False) w w5 ∧ w5.heap[ob]? = some (.cells #[.int .i64 x1, .int .i64 x2, .int .i64 x3] 30 (0, 0)) ∧ (∀ x, JF p s v q u x → x ≠ ob)) := Hid.of (by
              obtain ⟨j4, K4, hob, hobf⟩ := HJ4.out
              rw [← hw5]
              exact ⟨j4, HFR.out, K4, hob, fun x hx e => by have := hobf x hx; omega⟩)
            rw [hw5] at hw4 e0
            clear HJ4 HFR hw5
            go_wp2
            obtain ⟨j5, fr5, K5, hob5, nb5⟩ := HJ5.out
            have c0 := cell_of (v := .int .i64 x1) hob5 0 rfl
            have c1 := cell_of (v := .int .i64 x2) hob5 1 rfl
            have c2 := cell_of (v := .int .i64 x3) hob5 2 rfl
            have qd := done_any w5.drew p s v V q u Of x1 x2 x3 (j5.old ((Keeps.refl _ _).drew))
            obtain ⟨O, hO⟩ : ∃ O, doneO Of x1 x2 x3 = O := ⟨_, rfl⟩
            rw [hO] at qd
            obtain ⟨F, hF⟩ : ∃ F, (win O (-1)).length = F := ⟨_, rfl⟩
            obtain ⟨W, hW⟩ : ∃ W, ownerL O x3 = W := ⟨_, rfl⟩
            have m1 : ((F : Int) != (F : Int)) = false := by simp
            have m2 : (W != W) = false := by simp
            have HFF := Hid.of hF
            have HWW := Hid.of hW
            clear hO hF hW
            go_region_held3 (fun wx => wx.cell? ⟨ob, 0, none⟩ = some (.int .i64 x1) ∧ wx.cell? ⟨ob, 1, none⟩ = some (.int .i64 x2) ∧ wx.cell? ⟨ob, 2, none⟩ = some (.int .i64 x3))
              (first | exact ⟨c0, c1, c2⟩ | exact ⟨y0, y1, y2⟩ | exact ⟨z0, z1, z2⟩ | exact ⟨t0, t1, t2⟩)
              (first
                | (go_at_call 20; refine qd.mono ?_; rintro e w6 ⟨rfl, V6, j6, k6, b6⟩; have hob6 := k6.of_drew.at hob5 (fun hx => nb5 ob hx rfl); have t0 := cell_of (v := .int .i64 x1) hob6 0 rfl; have t1 := cell_of (v := .int .i64 x2) hob6 1 rfl; have t2 := cell_of (v := .int .i64 x3) hob6 2 rfl)
                | (go_at_call 17; have qf := free_any w6 p s v V6 O j6.a; rw [HFF.out] at qf; refine qf.mono ?_; rintro e wx ⟨rfl, rfl⟩)
                | (go_at_call 21; refine (rwindow_any w6 q u O (-1) j6.r).mono ?_; rintro e w7 ⟨v7, rfl, o7, k7⟩; rw [HFF.out] at o7; obtain ⟨A7, cp7, rfl, -, -, -⟩ := o7.rd; have hob7 := k7.at hob6 (fun x => x); have j7 := j6.old k7; have z0 := cell_of (v := .int .i64 x1) hob7 0 rfl; have z1 := cell_of (v := .int .i64 x2) hob7 1 rfl; have z2 := cell_of (v := .int .i64 x3) hob7 2 rfl)
                | (go_at_call 13; have qo := owner_any w7 p s v V6 O x3 j7.a j7.g; rw [HWW.out] at qo; refine qo.mono ?_; rintro e w8 ⟨rfl, k8⟩; have hob8 := k8.at hob7 (fun x => x); have j8 := j7.old k8; have y0 := cell_of (v := .int .i64 x1) hob8 0 rfl; have y1 := cell_of (v := .int .i64 x2) hob8 1 rfl; have y2 := cell_of (v := .int .i64 x3) hob8 2 rfl)
                | (go_at_call 22; have qo2 := rowner_any w8 q u O x3 j8.r; rw [HWW.out] at qo2; refine qo2.mono ?_; rintro e wx ⟨rfl, rfl⟩))
            have K8 : Keeps (fun _ => False) w w8 := ((K5.trans' k6.of_drew (fun x hx hl => by have := fr5 x hx; omega)).trans k7).trans k8
            have HJ8 := Hid.of (And.intro j8 (And.intro fr5 K8))
            clear j5 fr5 K5 hob5 nb5 j6 k6 b6 hob6 o7 k7 hob7 j7 k8 hob8 j8 K8 qd HJ5 c0 c1 c2 t0 t1 t2 z0 z1 z2 y0 y1 y2
            go_wp2
            go_loopw [93] (fun i wx => ∃ z : Nat, z ≤ 8 ∧ i = .int .i64 z ∧ J wx p s v V6 q u O ∧ Keeps (fun _ => False) w wx) (fun i _ => 8 - (intOf i).toNat)
            case atStart => exact ⟨0, by omega, rfl, HJ8.out.1, HJ8.out.2.2⟩
            case round =>
              obtain ⟨z, hz, rfl, hJ, hK⟩ := hrel
              by_cases hz8 : z < 8
              · have hzi : (z : Int) < 8 := by omega
                have qw := window_any wr p s v V6 O z hJ.a
                rw [winR_in O z hz8] at qw
                have hwl := win_len O z
                have hle := hJ.a.len
                obtain ⟨Lz, hLz⟩ : ∃ L, win O z = L := ⟨_, rfl⟩
                rw [hLz] at qw hwl
                have HLz := Hid.of hLz
                have hl32 : Lz.length ≤ 32 := by omega
                have HJz := Hid.of (And.intro hJ hK)
                clear hJ hK hLz hwl hle
                go_wp2_with fail
                refine qw.mono ?_
                rintro e w9 ⟨v9, rfl, o9, k9⟩
                obtain ⟨A9, cp9, rfl, -, -, r9⟩ := o9.rd
                have j9 := HJz.out.1.old k9
                have qr := rwindow_any w9 q u O z j9.r
                rw [HLz.out] at qr
                have HJ9 := Hid.of (And.intro j9 (HJz.out.2.trans k9))
                clear qw o9 k9 j9 HJz
                go_wp2_with fail
                refine qr.mono ?_
                rintro e w10 ⟨v10, rfl, o10, k10⟩
                obtain ⟨A10, cp10, rfl, -, -, r10⟩ := o10.rd
                have q3 := same_is w10 A9 A10 cp9 cp10 (zs Lz) (zs Lz) Lz.length Lz.length true (r9.old k10) r10 (zs_length _) (zs_length _) (by omega) (by omega) (by simp)
                have HJ10 := Hid.of (And.intro (HJ9.out.1.old k10) (HJ9.out.2.trans k10))
                clear qr o10 k10 HJ9 r9 r10
                go_wp2_with fail
                refine q3.mono ?_
                rintro e w11 ⟨rfl, k11⟩
                have HJ11 := Hid.of (And.intro (HJ10.out.1.old k11) (HJ10.out.2.trans k11))
                clear q3 k11 HJ10
                go_wp2
                go_roundw
                case rel => exact ⟨z + 1, by omega, by go_num, HJ11.out.1, HJ11.out.2⟩
                case measure => simp [intOf]; omega
              · obtain rfl : z = 8 := by omega
                have HE := Hid.of (And.intro hJ hK)
                have HFR8 := Hid.of HJ8.out.2.1
                clear hJ hK HJ8
                go_wp2
                go_roundw
                case rel => exact ⟨j + 1, p, s, v, V6, O, by omega, by go_num, rfl, HE.out.1, HFR8, HE.out.2⟩
                case measure => simp [intOf]; omega
        · have hje : j = m := by omega
          have hl1 : ¬ ((j : Int) < (m : Int)) := by omega
          have qw1 := window_any wr p s v V Of (-1) hJ.a
          have ew : winR Of (-1) = [] := rfl
          rw [ew] at qw1
          have HE := Hid.of (And.intro hJ hK)
          clear hJ hK hje ew HFR
          go_wp2_with fail
          refine qw1.mono ?_
          rintro e w9 ⟨v9, rfl, o9, k9⟩
          obtain ⟨A9, cp9, rfl, -, -, -⟩ := o9.rd
          have qw2 := window_any w9 p s v V Of 8 (HE.out.1.a.old k9)
          have ew : winR Of 8 = [] := rfl
          rw [ew] at qw2
          have HK9 := Hid.of (HE.out.2.trans k9)
          clear qw1 o9 k9 ew HE
          go_wp2_with fail
          refine qw2.mono ?_
          rintro e w10 ⟨v10, rfl, o10, k10⟩
          obtain ⟨A10, cp10, rfl, -, -, -⟩ := o10.rd
          have HK10 := Hid.of (HK9.out.trans k10)
          clear qw2 o10 k10 HK9
          go_wp2
          go_ret
          exact ⟨rfl, HK10.out⟩
  · have hn' : n < 1 ∨ 32 < n := by omega
    have qn := new_bad w n hn'
    have qr := rnew_bad w n hn'
    have HR := Hid.of hr
    clear hn hn' hT hr
    go_enter Tryd.func5, Tryd.ntmps5
    go_wp2_with fail
    refine qn.mono ?_
    rintro e w1 ⟨rfl, rfl⟩
    go_wp2_with fail
    refine qr.mono ?_
    rintro e w1 ⟨rfl, rfl⟩
    have qa1 := qa w (Keeps.refl _ _)
    clear qn qr
    go_wp2_with fail
    refine qa1.mono ?_
    rintro e w3 ⟨rfl, k3⟩
    have qa3 := qa w3 k3
    have HK3 := Hid.of k3
    clear qa1 k3 qa
    by_cases hbig : 1000 < m
    · have hd : decide ((1000 : Int) < (m : Int)) = true := by simp; omega
      go_wp2_with fail
      refine qa3.mono ?_
      rintro e w4 ⟨rfl, k4⟩
      have HK4 := Hid.of (HK3.out.trans k4)
      clear qa3 k4
      go_wp2
      go_ret
      exact ⟨rfl, HK4.out⟩
    · have hd : decide ((1000 : Int) < (m : Int)) = false := by simp; omega
      clear hbig qa3
      go_wp2
      go_ret
      exact ⟨rfl, HK3.out⟩
end Po
end Go.Proofs.YtcjdejhjbelggaaDoor
