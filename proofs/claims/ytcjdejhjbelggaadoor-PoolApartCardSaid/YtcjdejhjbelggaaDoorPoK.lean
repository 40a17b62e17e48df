/- PoolApart: the law and the walk. -/
import Derived.Test.YtcjdejhjbelggaaDoorPoL
set_option linter.unusedVariables false
set_option linter.unusedSimpArgs false
namespace Go.Proofs.YtcjdejhjbelggaaDoor
open Go.RowKit Go.ChangeMaps
namespace Po
theorem zero_bool' (w : World) : (zeroValue 4).run Tryd.prog w = .ok (.bool false) w := by kernel_rfl
/-- The colours that were seen. -/
def mks (M : List Nat) : List (Int × Bool) := M.map fun (c : Nat) => ((c : Int), true)
theorem eget_mks (M : List Nat) (k : Nat) (h : k ∉ M) : eget (mks M) k = none := by
  unfold eget mks
  rw [Option.map_eq_none_iff, List.find?_eq_none]
  intro p hp
  obtain ⟨c, hc, rfl⟩ := List.mem_map.1 hp
  simp only [beq_iff_eq]
  intro e
  have : c = k := by omega
  subst this
  exact h hc
theorem eset_mks (M : List Nat) (k : Nat) (h : k ∉ M) : eset (mks M) k true = mks (M ++ [k]) := by
  have h1 := eget_mks M k h
  unfold eget at h1
  unfold eset
  rw [Option.map_eq_none_iff] at h1
  rw [h1]
  simp [mks]
/-- All windows below z. -/
def all (O : List Int) (z : Nat) : List Nat := (List.range z).flatMap fun (i : Nat) => win O (i : Int)
theorem all_succ (O : List Int) (z : Nat) : all O (z + 1) = all O z ++ win O (z : Int) := by
  unfold all; rw [List.range_succ, List.flatMap_append]; simp
theorem all_mem {O : List Int} {z c : Nat} (h : c ∈ all O z) : ∃ i : Nat, i < z ∧ c ∈ win O (i : Int) := by
  unfold all at h
  obtain ⟨i, hi, hc⟩ := List.mem_flatMap.1 h
  exact ⟨i, List.mem_range.1 hi, hc⟩
theorem not_all {O : List Int} {z c : Nat} (h : c ∈ win O (z : Int)) : c ∉ all O z := fun hc => by
  obtain ⟨i, hi, h2⟩ := all_mem hc
  have := win_ne h h2
  omega
theorem count_all (f : Nat → Int) : ∀ R : List Nat, (∀ c ∈ R, -1 ≤ f c ∧ f c < 8) →
    ((List.range 8).flatMap fun i : Nat => R.filter (fun c => f c == (i : Int))).length + (R.filter (fun c => f c == -1)).length = R.length := by
  have e8 : List.range 8 = [0, 1, 2, 3, 4, 5, 6, 7] := by decide
  rw [e8]
  intro R
  induction R with
  | nil => intro _; rfl
  | cons c R ih =>
    intro h
    have ih := ih fun d hd => h d (List.mem_cons_of_mem _ hd)
    have hc := h c (List.mem_cons_self ..)
    have hk : f c = -1 ∨ f c = 0 ∨ f c = 1 ∨ f c = 2 ∨ f c = 3 ∨ f c = 4 ∨ f c = 5 ∨ f c = 6 ∨ f c = 7 := by omega
    simp only [List.flatMap_cons, List.flatMap_nil, List.append_nil, List.length_append, List.filter_cons, List.length_cons] at ih ⊢
    rcases hk with e | e | e | e | e | e | e | e | e <;> rw [e] <;> simp <;> simp at ih <;> omega
theorem all_len {O : List Int} (h : Good O) : (all O 8).length + (win O (-1)).length = O.length := by
  have := count_all (fun c => O.getD c (-2)) (List.range O.length) (fun c hc => h c (List.mem_range.1 hc))
  rw [List.length_range] at this
  exact this
theorem grantO_len (O : List Int) (o k : Int) : (grantO O o k).length = O.length := by
  unfold grantO; split
  · split
    · rfl
    · exact granted_len _ _ _
  · rfl
theorem shrinkO_len (O : List Int) (o k : Int) : (shrinkO O o k).length = O.length := by
  unfold shrinkO; split
  · split
    · rfl
    · exact shrunk_len _ _ _
  · rfl
/-- A pool of one's own, and a map. -/
structure PM (w0 w : World) (p s : Nat) (v : Value) (V : Nat → Value) (O : List Int) (sm : Nat) (M : List Nat) : Prop where
  j : PJ w0 w p s v V O
  m : EMap Value.bool w sm (mks M)
  n : ∀ x, Fp p s v x → x ≠ sm
  vn : ∀ i, i < 8 → ∀ g, (V i).ownBlock = some g → g ≠ sm
  lo : w0.heap.size ≤ sm
  gt : 0 < w0.heap.size
theorem PM.old {w0 w w' : World} {p s : Nat} {v : Value} {V : Nat → Value} {O : List Int} {sm : Nat} {M : List Nat} (h : PM w0 w p s v V O sm M) (k : Keeps (fun _ => False) w w') : PM w0 w' p s v V O sm M :=
  ⟨h.j.old k, h.m.keep k (fun x => x), h.n, h.vn, h.lo, h.gt⟩
theorem PM.upd {w0 w w' : World} {p s : Nat} {v : Value} {V : Nat → Value} {O : List Int} {sm : Nat} {M M' : List Nat} (h : PM w0 w p s v V O sm M) (m : EMap Value.bool w' sm (mks M')) (k : Keeps (fun x => x = sm) w w') : PM w0 w' p s v V O sm M' :=
  ⟨⟨h.j.a.keep k h.n h.vn, h.j.g, h.j.T.keep k (by have := h.gt; have := h.lo; omega), h.j.f, h.j.k.trans' k (fun x hx hl => by have := h.lo; omega)⟩, m, h.n, h.vn, h.lo, h.gt⟩
set_option maxRecDepth 100000 in
set_option maxHeartbeats 8000000 in
theorem apart_any (w : World) (n : Int) (A : Option Addr) (cap : Nat) (xs : List XO) (m : Nat) (hm : xs.length = m) (hml : m ≤ maxLen) (hr : Rd w A (xos xs)) (hT : Sh.Tab w) :
    Calls Tryd.prog 4 #[.int .i64 n, .slice A m cap] w fun e w' => e = .returned (.bool true) ∧ Keeps (fun _ => False) w w' := by
  unfold maxLen at hml
  have qa := fun wx (k : Keeps (fun _ => False) w wx) => awake_any wx (hT.old k)
  by_cases hn : 1 ≤ n ∧ n ≤ 32
  · obtain ⟨n, rfl⟩ : ∃ k : Nat, n = k := ⟨n.toNat, by omega⟩
    have qn := new_any w n (by omega) (by omega) hT
    have hn32 : n ≤ 32 := by omega
    have HT := Hid.of hT
    have HR := Hid.of hr
    clear hn hT hr
    go_enter Tryd.func4, Tryd.ntmps4
    go_wp2_with fail
    refine qn.mono ?_
    rintro e w1 ⟨p, s, v, V, rfl, a1, f1, -, k1⟩
    have HJ1 : Hid (PJ w w1 p s v V (List.replicate n (-1))) := Hid.of ⟨a1, good_new n, HT.out.old k1, f1, k1⟩
    clear qn a1 f1 k1
    go_wp2_with fail
    refine (qa w1 HJ1.out.k).mono ?_
    rintro e w3 ⟨rfl, k3⟩
    have HJ3 := Hid.of (And.intro (HJ1.out.old k3) (show (List.replicate n (-1 : Int)).length = n by simp))
    clear k3 HJ1
    by_cases hbig : 1000 < m
    · have hd : decide ((1000 : Int) < (m : Int)) = true := by simp; omega
      go_wp2_with fail
      refine (qa w3 HJ3.out.1.k).mono ?_
      rintro e w4 ⟨rfl, k4⟩
      have HK4 := Hid.of (HJ3.out.1.k.trans k4)
      clear qa k4
      go_wp2
      go_ret
      exact ⟨rfl, HK4.out⟩
    · have hd : decide ((1000 : Int) < (m : Int)) = false := by simp; omega
      have hm1 : m ≤ 1000 := by omega
      clear hbig qa
      go_wp2
      go_loopw [33] (fun i wr => ∃ (j : Nat) (V : Nat → Value) (Of : List Int), j ≤ m ∧ i = .int .i64 j ∧ Hid (PJ w wr p s v V Of ∧ Of.length = n)) (fun i _ => m - (intOf i).toNat)
      case atStart => exact ⟨0, V, _, Nat.zero_le _, rfl, HJ3⟩
      case round =>
        clear HJ3 hd
        obtain ⟨j, V, Of, hj, rfl, HJ⟩ := hrel
        by_cases hlt : j < m
        · obtain ⟨b1, o1, s1, x1, x2, x3, hg, rfl, d0, d1, d2⟩ := rxo (HR.out.old HJ.out.1.k) j (by omega)
          obtain ⟨w4, hw4⟩ : ∃ w4, wr.alloc (.cells #[.int .i64 x1, .int .i64 x2, .int .i64 x3] 30) = w4 := ⟨_, rfl⟩
          have k4 : Keeps (fun _ => False) wr w4 := by rw [← hw4]; exact (Keeps.refl _ _).alloc _
          have hob : w4.heap[wr.heap.size]? = some (.cells #[.int .i64 x1, .int .i64 x2, .int .i64 x3] 30 (0, 0)) := by rw [← hw4]; exact alloc_new _ _
          have e0 := cell_of (v := .int .i64 x1) hob 0 rfl
          have e1 := cell_of (v := .int .i64 x2) hob 1 rfl
          have e2 := cell_of (v := .int .i64 x3) hob 2 rfl
          have HJ4 := Hid.of (And.intro (HJ.out.1.old k4) HJ.out.2)
          have hlti : (j : Int) < (m : Int) := by omega
          have hkc : x1 = 1 ∨ (x1 ≠ 1 ∧ x1 = 2) ∨ (x1 ≠ 1 ∧ x1 ≠ 2) := by omega
          clear hg HJ k4 hob
          rcases hkc with h1 | ⟨h1, h2⟩ | ⟨h1, h2⟩
          case' inl =>
            have g1 : (x1 == 1) = true := by simpa using h1
            clear h1
            have qg := grant_any w4 p s v V Of x2 x3 HJ4.out.1.a HJ4.out.1.T
            go_wp2_with fail
            refine qg.mono ?_
            rintro e w5 ⟨ua, V2, rfl, o5, a5, k5, -⟩
            obtain ⟨Aa, ca, rfl, -, -, -⟩ := o5.rd
            obtain ⟨O, hO⟩ : ∃ O, grantO Of x2 x3 = O := ⟨_, rfl⟩
            have hg5 : Good O := by rw [← hO]; exact good_grant HJ4.out.1.g x2 x3
            have hl5 : O.length = n := by rw [← hO, grantO_len]; exact HJ4.out.2
            rw [hO] at a5
            have HJ5 := Hid.of (And.intro (HJ4.out.1.turn a5 hg5 k5) hl5)
            clear qg o5 k5 a5 HJ4 hO hg5 hl5
          case' inr.inl =>
            have g1 : (x1 == 1) = false := by simpa using h1
            have g2 : (x1 == 2) = true := by simpa using h2
            clear h1 h2
            have qg := shrink_any w4 p s v V Of x2 x3 HJ4.out.1.a
            go_wp2_with fail
            refine qg.mono ?_
            rintro e w5 ⟨ua, V2, rfl, o5, a5, k5, -⟩
            obtain ⟨Aa, ca, rfl, -, -, -⟩ := o5.rd
            obtain ⟨O, hO⟩ : ∃ O, shrinkO Of x2 x3 = O := ⟨_, rfl⟩
            have hg5 : Good O := by rw [← hO]; exact good_shrink HJ4.out.1.g x2 x3
            have hl5 : O.length = n := by rw [← hO, shrinkO_len]; exact HJ4.out.2
            rw [hO] at a5
            have HJ5 := Hid.of (And.intro (HJ4.out.1.turn a5 hg5 k5) hl5)
            clear qg o5 k5 a5 HJ4 hO hg5 hl5
          case' inr.inr =>
            have g1 : (x1 == 1) = false := by simpa using h1
            have g2 : (x1 == 2) = false := by simpa using h2
            clear h1 h2
            have qg := drop_any w4 p s v V Of x2 HJ4.out.1.a
            go_wp2_with fail
            refine qg.mono ?_
            rintro e w5 ⟨ua, V2, rfl, o5, a5, k5, -⟩
            obtain ⟨Aa, ca, rfl, -, -, -⟩ := o5.rd
            obtain ⟨O, hO⟩ : ∃ O, shrinkO Of x2 0 = O := ⟨_, rfl⟩
            have hg5 : Good O := by rw [← hO]; exact good_shrink HJ4.out.1.g x2 0
            have hl5 : O.length = n := by rw [← hO, shrinkO_len]; exact HJ4.out.2
            rw [hO] at a5
            have HJ5 := Hid.of (And.intro (HJ4.out.1.turn a5 hg5 k5) hl5)
            clear qg o5 k5 a5 HJ4 hO hg5 hl5
          all_goals
            clear e0 e1 e2 d0 d1 d2
            have hmm := @run_makeMap Tryd.prog
            obtain ⟨sm, hsm⟩ : ∃ sm, w5.heap.size = sm := ⟨_, rfl⟩
            obtain ⟨w6, hw6⟩ : ∃ w6, w5.alloc (.map #[] 0) = w6 := ⟨_, rfl⟩
            have k6 : Keeps (fun _ => False) w5 w6 := by rw [← hw6]; exact (Keeps.refl _ _).alloc _
            have HM6 : Hid (PM w w6 p s v V2 O sm (all O 0)) := Hid.of ⟨HJ5.out.1.old k6, by rw [← hw6, ← hsm]; exact EMap.new Value.bool w5, fun x hx => by have := HJ5.out.1.a.lt hx; omega, fun i hi g hg => by have := HJ5.out.1.a.vlt i hi g hg; omega, by have := HJ5.out.1.k.size; omega, HT.out.lt⟩
            have HL5 := Hid.of HJ5.out.2
            clear k6 HJ5
            go_wp2_with fail
            clear hmm hw6 hsm
            go_loopw [60] (fun i wx => ∃ z : Nat, z ≤ 8 ∧ i = .int .i64 z ∧ Hid (PM w wx p s v V2 O sm (all O z))) (fun i _ => 8 - (intOf i).toNat)
            case' atStart => exact ⟨0, by omega, rfl, HM6⟩
            case' round =>
              clear HM6
              obtain ⟨z, hz, rfl, HM⟩ := hrel
              by_cases hz8 : z < 8
              case' pos =>
                have hzi : (z : Int) < 8 := by omega
                have qw := window_any wr p s v V2 O z HM.out.j.a
                rw [winR_in O z hz8] at qw
                have hwl := win_len O z
                obtain ⟨L, hL⟩ : ∃ L, win O z = L := ⟨_, rfl⟩
                rw [hL] at qw hwl
                have hl32 : L.length ≤ 32 := by have := HL5.out; omega
                have HLz := Hid.of hL
                clear hL hwl
                go_wp2_with fail
                refine qw.mono ?_
                rintro e w9 ⟨v9, rfl, o9, k9⟩
                obtain ⟨A9, cp9, rfl, -, ap9, r9⟩ := o9.rd
                have HAP : Hid (∀ ad, A9 = some ad → ad.block ≠ sm) := Hid.of (fun ad e => by have := (ap9 ad e).1; have := HM.out.m.lt; omega)
                have HM9 : Hid (PM w w9 p s v V2 O sm (all O z ++ L.take 0) ∧ Rd w9 A9 (ints (zs L))) := Hid.of (And.intro (by rw [List.take_zero, List.append_nil]; exact HM.out.old k9) r9)
                clear qw o9 k9 ap9 r9 HM
                go_wp2
                go_loopw [11, 67] (fun la i wx => ∃ (j : Nat) (lv : Int), j ≤ L.length ∧ i = .int .i64 j ∧ la = .int .i64 lv ∧ Hid (∀ c, L[j]? = some c → lv < (c : Int)) ∧ Hid (PM w wx p s v V2 O sm (all O z ++ L.take j) ∧ Rd wx A9 (ints (zs L)))) (fun _ i _ => L.length - (intOf i).toNat)
                case' atStart => exact ⟨0, -1, Nat.zero_le _, rfl, rfl, Hid.of (fun c _ => by omega), HM9⟩
                case' round =>
                  clear HM9
                  obtain ⟨j2, lv, hj2, rfl, rfl, HLV, HM⟩ := hrel
                  by_cases hlt2 : j2 < L.length
                  case' pos =>
                    obtain ⟨c, hc⟩ : ∃ c, L[j2]? = some c := ⟨_, List.getElem?_eq_getElem hlt2⟩
                    obtain ⟨b1, o1, s1, rfl, d0⟩ := rd_int HM.out.2 j2 (by rw [zs_length]; omega)
                    have ec : (zs L).getD j2 0 = (c : Int) := by
                      rw [List.getD_eq_getElem?_getD]; unfold zs; rw [List.getElem?_map, hc]; rfl
                    rw [ec] at d0
                    have hcm : c ∈ win O (z : Int) := by rw [HLz.out]; exact List.mem_of_getElem? hc
                    have hcl := lt_of_win hcm
                    have hnot : c ∉ all O z ++ L.take j2 := fun h => by
                      rcases List.mem_append.1 h with h | h
                      · exact not_all hcm h
                      · obtain ⟨i, hi, e⟩ := List.mem_take_iff_getElem.1 h
                        have hr := win_rising O (z : Int)
                        rw [HLz.out] at hr
                        have := (List.pairwise_iff_getElem.1 hr) i j2 (by omega) hlt2 (by omega)
                        rw [e, (List.getElem?_eq_some_iff.1 hc).2] at this
                        omega
                    have hT : L.take (j2 + 1) = L.take j2 ++ [c] := by rw [List.take_add_one, hc]; rfl
                    have HLV2 : Hid (∀ d, L[j2 + 1]? = some d → (c : Int) < (d : Int)) := Hid.of (fun d hd => by
                      have hr := win_rising O (z : Int)
                      rw [HLz.out] at hr
                      obtain ⟨h1, e1⟩ := List.getElem?_eq_some_iff.1 hd
                      have := (List.pairwise_iff_getElem.1 hr) j2 (j2 + 1) hlt2 h1 (by omega)
                      rw [e1, (List.getElem?_eq_some_iff.1 hc).2] at this
                      omega)
                    have hlv := HLV.out c hc
                    have t1 : decide ((c : Int) ≤ lv) = false := by simp; omega
                    have t2 : decide (n ≤ c) = false := by have := HL5.out; simp; omega
                    have lk := HM.out.1.m.look (P := Tryd.prog) 3 Tryd.underlying39 Tryd.underlying3 (c : Int) (z := false) (zero_bool' _)
                    rw [eget_mks _ _ hnot] at lk
                    have qo := owner_any wr p s v V2 O c HM.out.1.j.a HM.out.1.j.g
                    rw [owner_at (mem_zs.2 ⟨c, hcm, rfl⟩)] at qo
                    have t3 : ((z : Int) != (z : Int)) = false := by simp
                    have hli : (j2 : Int) < (L.length : Int) := by omega
                    have HN := Hid.of (And.intro hnot hT)
                    clear ec hcm hcl hnot hT hlv hc HLV
                    go_wp2_with fail
                    refine qo.mono ?_
                    rintro e w10 ⟨rfl, k10⟩
                    have HM10 := Hid.of (And.intro (HM.out.1.old k10) (HM.out.2.old k10))
                    obtain ⟨w11, up, M11, k11⟩ := HM10.out.1.m.upd (P := Tryd.prog) 3 Tryd.underlying39 Tryd.underlying3 (c : Int) true
                    rw [eset_mks _ _ HN.out.1, List.append_assoc, ← HN.out.2] at M11
                    have HM11 := Hid.of (And.intro (HM10.out.1.upd M11 k11) (HM10.out.2.keep k11 (fun ad ea _ => HAP.out ad ea)))
                    clear qo k10 HM M11 k11 HM10 lk d0
                    go_wp2
                    go_roundw
                    case rel => exact ⟨j2 + 1, c, by omega, by go_num, rfl, HLV2, HM11⟩
                    case measure => simp [intOf]; omega
                  case' neg =>
                    have hli : ¬ ((j2 : Int) < (L.length : Int)) := by omega
                    have HM2 : Hid (PM w wr p s v V2 O sm (all O (z + 1))) := Hid.of (by
                      have h := HM.out.1
                      rw [List.take_of_length_le (by omega), ← HLz.out, ← all_succ] at h
                      exact h)
                    clear HM HLV
                    go_wp2
                    go_roundw
                    case rel => exact ⟨z + 1, by omega, by go_num, HM2⟩
                    case measure => simp [intOf]; omega
              case' neg =>
                obtain rfl : z = 8 := by omega
                have hlen := HM.out.m.len (P := Tryd.prog) (ty := 3) Tryd.underlying39
                have hlm : (mks (all O 8)).length = (all O 8).length := by simp [mks]
                rw [hlm] at hlen
                have hsum := all_len HM.out.j.g
                rw [HL5.out] at hsum
                have qf := free_any wr p s v V2 O HM.out.j.a
                obtain ⟨la, hla⟩ : ∃ la, (all O 8).length = la := ⟨_, rfl⟩
                obtain ⟨lf, hlf⟩ : ∃ lf, (win O (-1)).length = lf := ⟨_, rfl⟩
                rw [hla] at hlen hsum
                rw [hlf] at qf hsum
                have hadd : wrap64 ((la : Int) + (lf : Int)) = (n : Int) := by unfold wrap64; omega
                have m1 : ((n : Int) != (n : Int)) = false := by simp
                have HJ6 : Hid (PJ w wr p s v V2 O ∧ O.length = n) := Hid.of (And.intro HM.out.j HL5.out)
                clear hlm hla hlf hsum HM HL5
                go_wp2_with fail
                refine qf.mono ?_
                rintro e w12 ⟨rfl, rfl⟩
                go_wp2
                go_roundw
                case rel => exact ⟨j + 1, V2, O, by omega, by go_num, HJ6⟩
                case measure => simp [intOf]; omega
        · have hje : j = m := by omega
          have hl1 : ¬ ((j : Int) < (m : Int)) := by omega
          clear HR hje
          go_wp2
          go_ret
          exact ⟨rfl, HJ.out.1.k⟩
  · have hn' : n < 1 ∨ 32 < n := by omega
    have qn := new_bad w n hn'
    clear hn hn' hT hr
    go_enter Tryd.func4, Tryd.ntmps4
    go_wp2_with fail
    refine qn.mono ?_
    rintro e w1 ⟨rfl, rfl⟩
    go_wp2_with fail
    clear qn
    refine (qa w (Keeps.refl _ _)).mono ?_
    rintro e w3 ⟨rfl, k3⟩
    have qa3 := qa w3 k3
    have HK3 := Hid.of k3
    clear k3 qa
    by_cases hbig : 1000 < m
    · have hd : decide ((1000 : Int) < (m : Int)) = true := by simp; omega
      go_wp2_with fail
      refine qa3.mono ?_
      rintro e w4 ⟨rfl, k4⟩
      have HK4 := Hid.of (HK3.out.trans k4)
      clear qa3 k4
      go_wp2
      go_ret
      exact ⟨rfl, HK4.out⟩
    · have hd : decide ((1000 : Int) < (m : Int)) = false := by simp; omega
      clear hbig
      go_wp2_with fail
      refine qa3.mono ?_
      rintro e w4 ⟨rfl, k4⟩
      have HK4 := Hid.of (HK3.out.trans k4)
      clear qa3 k4
      go_wp2
      go_ret
      exact ⟨rfl, HK4.out⟩
end Po
end Go.Proofs.YtcjdejhjbelggaaDoor
