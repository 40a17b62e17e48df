/- PoolLow: the law and the walk. -/
import Derived.Test.YtcjdejhjbelggaaDoorPoI
set_option linter.unusedVariables false
set_option linter.unusedSimpArgs false
namespace Go.Proofs.YtcjdejhjbelggaaDoor
open Go.RowKit Go.ChangeMaps
namespace Po
/-- A pool of one's own, made since w0. -/
structure PJ (w0 w : World) (p s : Nat) (v : Value) (V : Nat → Value) (Of : List Int) : Prop where
  a : At w p s v V Of
  g : Good Of
  T : Sh.Tab w
  f : ∀ x, Fp p s v x → w0.heap.size ≤ x
  k : Keeps (fun _ => False) w0 w
theorem PJ.old {w0 w w' : World} {p s : Nat} {v : Value} {V : Nat → Value} {Of : List Int} (h : PJ w0 w p s v V Of) (k : Keeps (fun _ => False) w w') : PJ w0 w' p s v V Of := ⟨h.a.old k, h.g, h.T.old k, h.f, h.k.trans k⟩
theorem PJ.turn {w0 w w' : World} {p s : Nat} {v : Value} {V V' : Nat → Value} {Of Of' : List Int} (h : PJ w0 w p s v V Of) (a : At w' p s v V' Of') (g : Good Of') (k : Keeps (Fp p s v) w w') : PJ w0 w' p s v V' Of' :=
  ⟨a, g, h.T.keep k h.a.off, h.f, h.k.trans' k (fun x hx hl => by have := h.f x hx; omega)⟩
theorem last_lt {l : List Nat} (h : l.Pairwise (· < ·)) {k c : Nat} (hk : k < l.length) (hc : c ∈ l) (hlt : c < l[k]) : c ∈ l.take k := by
  obtain ⟨j, hj, rfl⟩ := List.mem_iff_getElem.1 hc
  have : j < k := by
    rcases Nat.lt_or_ge j k with e | e
    · exact e
    · exfalso
      rcases Nat.lt_or_ge k j with e2 | e2
      · have := (List.pairwise_iff_getElem.1 h) k j hk hj e2; omega
      · have : j = k := by omega
        subst this; omega
  rw [List.mem_take_iff_getElem]
  exact ⟨j, by omega, rfl⟩
theorem low {Of : List Int} {o k : Nat} (hk : k < (win Of (-1)).length) {z c : Nat} (hz : (more Of (k + 1)).getD k 0 = z) (hc : c < z) : ownerL (granted Of o (k + 1)) c ≠ -1 := by
  have hzw : (win Of (-1))[k] = z := by
    rw [← hz]; unfold more
    rw [List.getD_eq_getElem?_getD, List.getElem?_take, if_pos (by omega), List.getElem?_eq_getElem hk]; rfl
  have hzl : z < Of.length := by rw [← hzw]; exact lt_of_win (List.getElem_mem hk)
  unfold ownerL
  rw [granted_len, if_pos (by omega), Int.toNat_natCast]
  unfold granted
  rw [setAll_get _ _ _ _ more_lt]
  split
  · omega
  · rename_i hn
    intro e
    apply hn
    have hm : c ∈ win Of (-1) := by
      rw [mem_win]
      refine ⟨by omega, ?_⟩
      rw [← e, List.getD_eq_getElem?_getD, List.getD_eq_getElem?_getD, List.getElem?_eq_getElem (show c < Of.length by omega)]; rfl
    have := last_lt (win_rising Of (-1)) hk hm (by rw [hzw]; exact hc)
    unfold more
    exact List.take_subset_take_left _ (by omega) this
theorem reg_start {P : Program} {ops : Array Oper} {Q : Exit → Act → World → Prop} {id : Nat} {a : Act} {w : World} (hm : P.follows .mixedOrders = true)
    (hq : ∀ c a (d : Nat) v w, Q (.panic c) (Act.put a (some d) v) w → Q (.panic c) a w)
    (h : ∀ Q' : Exit → Act → World → Prop, (∀ c a (d : Nat) v w, Q' (.panic c) (Act.put a (some d) v) w → Q' (.panic c) a w) → (∀ a w, Q .normal a w → Q' .normal a w) → wpAny P .any ops Q' ops.size (Array.replicate ops.size false) a w.drew) : (Code.region id ops true).wp P Q a w :=
  wp_region_any hm (h Q hq (fun _ _ x => x))
theorem reg_take {P : Program} {md : Region.Mode} {ops : Array Oper} {Q : Exit → Act → World → Prop} (hq : ∀ c a (d : Nat) v w, Q (.panic c) (Act.put a (some d) v) w → Q (.panic c) a w)
    (i : Nat) {oi : Oper} {v : Value} {d : Nat} {fuel : Nat} {listed : Array Bool} {a : Act} {w : World} (hi : ops[i]? = some oi) (hd : oi.dst = some d)
    (hs : Region.noSelect ops = true) (hf : Region.free md ops listed i = true) (hr : (Region.ready md ops listed).contains i = true)
    (hw : Region.wanted oi (yielded ops a.tmps) = true) (hy : ∀ w, (execOp a.eval oi).run P w = .ok (.value v) w)
    (h : wpAny P md ops Q fuel (listed.setIfInBounds i true) (a.put (some d) v) w) : wpAny P md ops Q (fuel + 1) listed a w :=
  wpAny_take hi hs hf hr (fun c a w => by rw [hd]; exact hq c a d _ w) (.inl ⟨hw, hy⟩) (by rw [hd]; exact h)
theorem ow_mod (x : Int) : wrap64 ((IntKind.u64.wrap x).tmod 8) = ((wrap64 ((IntKind.u64.wrap x).tmod 8)).toNat : Int) ∧ wrap64 ((IntKind.u64.wrap x).tmod 8) < 8 := by
  have h : 0 ≤ IntKind.u64.wrap x := by
    have e : IntKind.u64.wrap x = x % 18446744073709551616 := by simp [IntKind.wrap, IntKind.signed, IntKind.bits]
    omega
  rw [Int.tmod_eq_emod_of_nonneg h]
  unfold wrap64
  omega
set_option maxRecDepth 100000 in
set_option maxHeartbeats 4000000 in
theorem low_any (w : World) (n : Int) (A : Option Addr) (cap : Nat) (xs : List XO) (ow k : Int) (m : Nat) (hm : xs.length = m) (hml : m ≤ maxLen) (hr : Rd w A (xos xs)) (hw3 : (Lit.int .i64 k).wf = true) (hT : Sh.Tab w) :
    Calls Tryd.prog 3 #[.int .i64 n, .slice A m cap, .int .i64 ow, .int .i64 k] w fun e w' => e = .returned (.bool true) ∧ Keeps (fun _ => False) w w' := by
  unfold maxLen at hml
  have qa := fun wx (k : Keeps (fun _ => False) w wx) => awake_any wx (hT.old k)
  by_cases hn : 1 ≤ n ∧ n ≤ 32
  · obtain ⟨n, rfl⟩ : ∃ k : Nat, n = k := ⟨n.toNat, by omega⟩
    have qn := new_any w n (by omega) (by omega) hT
    have HT := Hid.of hT
    have HR := Hid.of hr
    clear hn hT hr
    go_enter Tryd.func3, Tryd.ntmps3
    go_wp2_with fail
    refine qn.mono ?_
    rintro e w1 ⟨p, s, v, V, rfl, a1, f1, -, k1⟩
    have HJ1 : Hid (PJ w w1 p s v V (List.replicate n (-1))) := Hid.of ⟨a1, good_new n, HT.out.old k1, f1, k1⟩
    clear qn a1 f1 k1
    go_wp2_with fail
    obtain ⟨o, ho⟩ : ∃ o : Nat, wrap64 ((IntKind.u64.wrap ow).tmod 8) = o := ⟨(wrap64 ((IntKind.u64.wrap ow).tmod 8)).toNat, (ow_mod ow).1⟩
    have hoi := (ow_mod ow).2
    rw [ho] at hoi
    have ho8 : o < 8 := by omega
    rw [ho]
    clear ho
    refine (qa w1 HJ1.out.k).mono ?_
    rintro e w3 ⟨rfl, k3⟩
    have HJ3 := Hid.of (HJ1.out.old k3)
    clear k3 HJ1
    by_cases hbig : 300 < m
    · have hd : decide ((300 : Int) < (m : Int)) = true := by simp; omega
      go_wp2_with fail
      refine (qa w3 HJ3.out.k).mono ?_
      rintro e w4 ⟨rfl, k4⟩
      have HK4 := Hid.of (HJ3.out.k.trans k4)
      clear qa k4
      go_wp2
      go_ret
      exact ⟨rfl, HK4.out⟩
    · have hd : decide ((300 : Int) < (m : Int)) = false := by simp; omega
      have hm1 : m ≤ 300 := by omega
      clear hbig qa
      go_wp2
      go_loopw [41] (fun i wr => ∃ (j : Nat) (V : Nat → Value) (Of : List Int), j ≤ m ∧ i = .int .i64 j ∧ Hid (PJ w wr p s v V Of)) (fun i _ => m - (intOf i).toNat)
      case atStart => exact ⟨0, V, _, Nat.zero_le _, rfl, HJ3⟩
      case round =>
        clear HJ3 hd
        obtain ⟨j, V, Of, hj, rfl, HJ⟩ := hrel
        by_cases hlt : j < m
        · obtain ⟨b1, o1, s1, x1, x2, x3, hg, rfl, d0, d1, d2⟩ := rxo (HR.out.old HJ.out.k) j (by omega)
          obtain ⟨w4, hw4⟩ : ∃ w4, wr.alloc (.cells #[.int .i64 x1, .int .i64 x2, .int .i64 x3] 30) = w4 := ⟨_, rfl⟩
          have k4 : Keeps (fun _ => False) wr w4 := by rw [← hw4]; exact (Keeps.refl _ _).alloc _
          have hob : w4.heap[wr.heap.size]? = some (.cells #[.int .i64 x1, .int .i64 x2, .int .i64 x3] 30 (0, 0)) := by rw [← hw4]; exact alloc_new _ _
          have e0 := cell_of (v := .int .i64 x1) hob 0 rfl
          have e1 := cell_of (v := .int .i64 x2) hob 1 rfl
          have e2 := cell_of (v := .int .i64 x3) hob 2 rfl
          have HJ4 := Hid.of (HJ.out.old k4)
          have hlti : (j : Int) < (m : Int) := by omega
          clear hg HJ k4 hob
          by_cases h1 : x1 = 1
          · have g1 : (x1 == 1) = true := by simpa using h1
            have qg := grant_any w4 p s v V Of x2 x3 HJ4.out.a HJ4.out.T
            clear h1
            go_wp2_with fail
            refine qg.mono ?_
            rintro e w5 ⟨ua, V2, rfl, o5, a5, k5, -⟩
            obtain ⟨Aa, ca, rfl, -, -, -⟩ := o5.rd
            have HJ5 := Hid.of (HJ4.out.turn a5 (good_grant HJ4.out.g x2 x3) k5)
            clear qg o5 k5 a5 HJ4
            go_wp2
            go_roundw
            case rel => exact ⟨j + 1, V2, _, by omega, by go_num, HJ5⟩
            case measure => simp [intOf]; omega
          · have g1 : (x1 == 1) = false := by simpa using h1
            have qg := shrink_any w4 p s v V Of x2 x3 HJ4.out.a
            clear h1
            go_wp2_with fail
            refine qg.mono ?_
            rintro e w5 ⟨ua, V2, rfl, o5, a5, k5, -⟩
            obtain ⟨Aa, ca, rfl, -, -, -⟩ := o5.rd
            have HJ5 := Hid.of (HJ4.out.turn a5 (good_shrink HJ4.out.g x2 x3) k5)
            clear qg o5 k5 a5 HJ4
            go_wp2
            go_roundw
            case rel => exact ⟨j + 1, V2, _, by omega, by go_num, HJ5⟩
            case measure => simp [intOf]; omega
        · have hje : j = m := by omega
          have hl1 : ¬ ((j : Int) < (m : Int)) := by omega
          clear HR hje
          have qg := grant_any wr p s v V Of o k HJ.out.a HJ.out.T
          obtain ⟨O, hO⟩ : ∃ O, grantO Of o k = O := ⟨_, rfl⟩
          have hGO : Good O := by rw [← hO]; exact good_grant HJ.out.g o k
          rw [hO] at qg
          have hfin : (∃ E : Int, grantE Of o k = E ∧ (E == 0) = false ∧ grantM Of o k = []) ∨ (grantE Of o k = 0 ∧ grantM Of o k = []) ∨ (∃ (q z : Nat) (M : List Nat), grantE Of o k = 0 ∧ grantM Of o k = M ∧ M.length = q + 1 ∧ q < 32 ∧ M.getD q 0 = z ∧ z ≤ 32 ∧ ∀ c : Nat, c < z → ownerL O c ≠ -1) := by
            have hlen := HJ.out.a.len
            have hwl := win_len Of (-1)
            rw [← hO]
            by_cases hk0 : 0 ≤ k
            · have hc : 0 ≤ (o : Int) ∧ (o : Int) < 8 ∧ 0 ≤ k := ⟨by omega, hoi, hk0⟩
              by_cases hk1 : ((win Of (-1)).length : Int) < k
              · rw [show grantE Of o k = 9 from by unfold grantE; rw [if_pos hc, if_pos hk1], show grantM Of o k = [] from by unfold grantM; rw [if_pos hc, if_pos hk1]]; exact .inl ⟨9, rfl, rfl, rfl⟩
              · rw [show grantE Of o k = 0 from by unfold grantE; rw [if_pos hc, if_neg hk1], show grantM Of o k = more Of k.toNat from by unfold grantM; rw [if_pos hc, if_neg hk1], show grantO Of o k = granted Of o k.toNat from by unfold grantO; rw [if_pos hc, if_neg hk1]]
                obtain ⟨kk, rfl⟩ : ∃ kk : Nat, k = kk := ⟨k.toNat, by omega⟩
                rw [Int.toNat_natCast]
                cases kk with
                | zero => exact .inr (.inl ⟨rfl, rfl⟩)
                | succ q =>
                  have hq : q < (win Of (-1)).length := by omega
                  refine .inr (.inr ⟨q, _, _, rfl, rfl, more_len (by omega), by omega, rfl, ?_, fun c hc => low (o := o) hq rfl hc⟩)
                  have hl : q < (more Of (q + 1)).length := by rw [more_len (by omega)]; omega
                  rw [List.getD_eq_getElem?_getD, List.getElem?_eq_getElem hl]
                  have := more_lt _ (List.getElem_mem hl)
                  exact Nat.le_trans (Nat.le_of_lt this) hlen
            · have hc : ¬ (0 ≤ (o : Int) ∧ (o : Int) < 8 ∧ 0 ≤ k) := fun h => hk0 h.2.2
              rw [show grantE Of o k = 12 from by unfold grantE; rw [if_neg hc], show grantM Of o k = [] from by unfold grantM; rw [if_neg hc]]; exact .inl ⟨12, rfl, rfl, rfl⟩
          have HHJ := HJ
          have HO := Hid.of hGO
          clear hO hGO HJ
          rcases hfin with ⟨E, hE, hE0, hM⟩ | ⟨hE, hM⟩ | ⟨q, z, M, hE, hM, hML, hq, hz, hzb, hown⟩
          case' inl =>
            rw [hE, hM] at qg
            clear hE hM
            go_wp2_with fail
            refine qg.mono ?_
            rintro e w5 ⟨ua, V2, rfl, o5, a5, k5, -⟩
            obtain ⟨Aa, ca, rfl, -, -, -⟩ := o5.rd
            have HJ5 := Hid.of (HHJ.out.turn a5 HO.out k5)
            clear qg o5 k5 a5 HHJ
          case' inr.inl =>
            rw [hE, hM] at qg
            clear hE hM
            go_wp2_with fail
            refine qg.mono ?_
            rintro e w5 ⟨ua, V2, rfl, o5, a5, k5, -⟩
            obtain ⟨Aa, ca, rfl, -, -, -⟩ := o5.rd
            have HJ5 := Hid.of (HHJ.out.turn a5 HO.out k5)
            clear qg o5 k5 a5 HHJ
          case' inr.inr =>
            rw [hE, hM] at qg
            clear hE hM
            go_wp2_with fail
            refine qg.mono ?_
            rintro e w4 ⟨ua, V2, rfl, o5, a5, k5, -⟩
            rw [hML] at o5
            obtain ⟨Aa, ca, rfl, -, -, r5⟩ := o5.rd
            obtain ⟨b1, o1, s1, rfl, c5⟩ := rd_int r5 q (by rw [zs_length]; omega)
            have ez : (zs M).getD q 0 = (z : Int) := by
              rw [← hz, List.getD_eq_getElem?_getD, List.getD_eq_getElem?_getD]; unfold zs
              rw [List.getElem?_map, List.getElem?_eq_getElem (by omega)]; rfl
            rw [ez] at c5
            have hpos : decide ((0 : Int) < ((q + 1 : Nat) : Int)) = true := by simp
            have hsub : wrap64 (((q + 1 : Nat) : Int) - 1) = (q : Int) := by unfold wrap64; omega
            have hqi : (q : Int) < ((q + 1 : Nat) : Int) := by omega
            have HZ : Hid (∀ c : Nat, c < z → ownerL O c ≠ -1) := Hid.of hown
            have HJ6 := Hid.of (HHJ.out.turn a5 HO.out k5)
            clear qg o5 k5 a5 HHJ r5 ez hz hown hML
            go_wp2
            go_loopw [81] (fun i wx => ∃ c : Nat, c ≤ z ∧ i = .int .i64 c ∧ Hid (PJ w wx p s v V2 O)) (fun i _ => z - (intOf i).toNat)
            case' atStart => exact ⟨0, Nat.zero_le _, rfl, HJ6⟩
            case' round =>
              clear HJ6 c5 hpos hsub
              obtain ⟨c, hcz, rfl, HJ7⟩ := hrel
              by_cases hc : c < z
              case' pos =>
                have qo := owner_any wr p s v V2 O c HJ7.out.a HJ7.out.g
                obtain ⟨W, hW⟩ : ∃ W, ownerL O c = W := ⟨_, rfl⟩
                have hW1 : (W == -1) = false := by rw [← hW]; simpa using HZ.out c hc
                have hci : (c : Int) < (z : Int) := by omega
                rw [hW] at qo
                clear hW
                go_wp2_with fail
                refine qo.mono ?_
                rintro e w8 ⟨rfl, k8⟩
                have HJ8 := Hid.of (HJ7.out.old k8)
                clear qo k8 HJ7
                go_wp2
                go_roundw
                case rel => exact ⟨c + 1, by omega, by go_num, HJ8⟩
                case measure => simp [intOf]; omega
              case' neg =>
                have hci : ¬ ((c : Int) < (z : Int)) := by omega
                obtain ⟨w5, rfl⟩ : ∃ z, z = wr := ⟨_, rfl⟩
                have HJ5 := HJ7
                clear HJ7 HZ
          all_goals
            have qw := window_any w5 p s v V2 O o HJ5.out.a
            rw [winR_in O o ho8] at qw
            obtain ⟨L, hL⟩ : ∃ L, win O o = L := ⟨_, rfl⟩
            have hwl := win_len O o
            have hle := HJ5.out.a.len
            rw [hL] at qw hwl
            have hl32 : L.length ≤ 32 := by omega
            have HL := Hid.of hL
            clear hL hwl hle
            go_wp2_with fail
            refine qw.mono ?_
            rintro e w6 ⟨v6, rfl, o6, k6⟩
            obtain ⟨A6, cp6, rfl, hl6, -, hn6, r6⟩ := row_own rfl o6.1
            have HJ6 := Hid.of (HJ5.out.old k6)
            have HA6 : Hid (∀ ad, A6 = some ad → ¬ Fp p s v ad.block) := Hid.of (fun ad e hx => by
              have h1 := o6.2 ad.block (by rw [e]; rfl)
              have := HJ5.out.a.lt hx
              omega)
            have qs := shrink_any w6 p s v V2 O o k HJ6.out.a
            clear qw o6 k6 HJ5
            have hsh : shrinkE O o k = 12 ∨ (∃ kk : Nat, k = kk ∧ kk ≤ L.length ∧ shrinkE O o k = 0 ∧ shrinkM O o k = L.drop kk ∧ win (shrinkO O o k) o = L.take kk) := by
              by_cases hk0 : 0 ≤ k
              · have hc : 0 ≤ (o : Int) ∧ (o : Int) < 8 ∧ 0 ≤ k := ⟨by omega, hoi, hk0⟩
                by_cases hk1 : ((win O o).length : Int) < k
                · exact .inl (by unfold shrinkE; rw [if_pos hc, if_pos hk1])
                · obtain ⟨kk, rfl⟩ : ∃ kk : Nat, k = kk := ⟨k.toNat, by omega⟩
                  refine .inr ⟨kk, rfl, by rw [← HL.out]; omega, by unfold shrinkE; rw [if_pos hc, if_neg hk1], ?_, ?_⟩
                  · unfold shrinkM; rw [if_pos hc, if_neg hk1, Int.toNat_natCast]; unfold gone; rw [HL.out]
                  · unfold shrinkO; rw [if_pos hc, if_neg hk1, Int.toNat_natCast, shrunk_own O o (by omega), HL.out]
              · have hc : ¬ (0 ≤ (o : Int) ∧ (o : Int) < 8 ∧ 0 ≤ k) := fun h => hk0 h.2.2
                exact .inl (by unfold shrinkE; rw [if_neg hc])
            obtain ⟨O2, hO2⟩ : ∃ O2, shrinkO O o k = O2 := ⟨_, rfl⟩
            have hg2 : Good O2 := by rw [← hO2]; exact good_shrink HJ6.out.g o k
            rw [hO2] at qs hsh
            obtain ⟨nL, hnL⟩ : ∃ nL, L.length = nL := ⟨_, rfl⟩
            rw [hnL] at hl6 hn6 hsh hl32
            rw [hnL]
            have HG2 := Hid.of hg2
            have HNL := Hid.of hnL
            clear hO2 hg2 hnL
            rcases hsh with hE | ⟨kk, rfl, hkk, hE, hM, hW⟩
            · rw [hE] at qs
              clear hE
              go_wp2_with fail
              refine qs.mono ?_
              rintro e w7 ⟨u7, V7, rfl, o7, a7, k7, -⟩
              obtain ⟨A7, c7, rfl, -, -, -⟩ := o7.rd
              have HJ7 := Hid.of (HJ6.out.turn a7 HG2.out k7)
              clear qs o7 a7 k7 HJ6 r6
              go_wp2
              go_region
              go_wp2
              go_ret
              exact ⟨rfl, HJ7.out.k.drew⟩
            · obtain ⟨r, hr⟩ : ∃ r, (L.drop kk).length = r := ⟨_, rfl⟩
              have hr2 : nL - kk = r := by rw [← hr, List.length_drop, HNL.out]
              have ht : (L.take kk).length = kk := by rw [List.length_take, HNL.out]; omega
              obtain ⟨t1, t2⟩ := sl_to A6 nL kk cp6 (by omega)
              obtain ⟨A2, s1, s2, -, r2, b2⟩ := sl_from w6 A6 nL kk cp6 hkk hl6 (ints (zs L)) (by rw [ints_length, zs_length, HNL.out]) hn6 r6
              have eg : (ints (zs L)).drop kk = ints (zs (L.drop kk)) := by rw [zs_drop]; unfold ints; rw [List.map_drop]
              have et : (ints (zs L)).take kk = ints (zs (L.take kk)) := by rw [zs_take]; unfold ints; rw [List.map_take]
              rw [eg] at r2
              have r3 := Rd_take1 r6 kk
              rw [et] at r3
              rw [hr2] at s1 s2
              rw [hE, hM] at qs
              have HR := Hid.of (And.intro r2 (And.intro r3 (And.intro b2 (And.intro hr (And.intro ht (And.intro hr2 hW))))))
              clear hE hM r2 r3 b2 hr ht eg et r6 hn6 hW
              go_wp2_with fail
              refine qs.mono ?_
              rintro e w7 ⟨u7, V7, rfl, o7, a7, k7, -⟩
              obtain ⟨r2, r3, b2, hr, ht, hr2, hW⟩ := HR.out
              rw [hr] at o7
              obtain ⟨A7, c7', rfl, -, -, r7⟩ := o7.rd
              have HJ7 := Hid.of ((HJ6.out.turn a7 HG2.out k7).old ((Keeps.refl _ w7).drew))
              have r2' : Rd w7.drew A2 (ints (zs (L.drop kk))) := (r2.keep k7 (fun ad e _ => by obtain ⟨ad', e1, e2⟩ := b2 ad e; rw [e2]; exact HA6.out ad' e1)).old ((Keeps.refl _ w7).drew)
              have r3' : Rd w7.drew A6 (ints (zs (L.take kk))) := (r3.keep k7 (fun ad e _ => HA6.out ad e)).old ((Keeps.refl _ w7).drew)
              have r7' : Rd w7.drew A7 (ints (zs (L.drop kk))) := r7.old ((Keeps.refl _ w7).drew)
              have qw2 := window_any w7.drew p s v V7 O2 o HJ7.out.a
              rw [winR_in O2 o ho8, hW] at qw2
              have hr1m : r ≤ 1000000 := by omega
              have hk1m : kk ≤ 1000000 := by omega
              have m1 : ((r : Int) == (r : Int)) = true := by simp
              have hsub : IntKind.i64.wrap ((nL : Int) - (kk : Int)) = (r : Int) := by rw [IntWalk.i64_in _ (by omega)]; omega
              have HRR := Hid.of (And.intro r2' (And.intro r3' (And.intro r7' (And.intro hr (And.intro ht HJ7.out)))))
              clear qs o7 a7 k7 HJ6 r7 r2 r3 b2 hr ht hr2 hW HR r2' r3' r7' HJ7
              go_wp2
              refine reg_start (by kernel_rfl) (fun _ _ _ _ _ h => h) ?_
              intro QR hqr hqn
              change wpAny _ _ _ _ 28 _ _ _
              refine reg_take hqr 0 (v := .int .i64 0) rfl rfl (by kernel_rfl) (by kernel_rfl) (by kernel_rfl) (by kernel_rfl) (fun w => by kernel_rfl) ?_
              refine reg_take hqr 1 (v := .bool false) rfl rfl (by kernel_rfl) (by kernel_rfl) (by kernel_rfl) (by kernel_rfl) (fun w => by kernel_rfl) ?_
              refine reg_take hqr 2 (v := .bool false) rfl rfl (by kernel_rfl) (by kernel_rfl) (by kernel_rfl) (by kernel_rfl) (fun w => by kernel_rfl) ?_
              refine reg_take hqr 3 (v := .slice A7 r c7') rfl rfl (by kernel_rfl) (by kernel_rfl) (by kernel_rfl) (by kernel_rfl) (fun w => by kernel_rfl) ?_
              refine reg_take hqr 4 (v := .int .i64 r) rfl rfl (by kernel_rfl) (by kernel_rfl) (by kernel_rfl) (by kernel_rfl) (fun w => by kernel_rfl) ?_
              refine reg_take hqr 5 (v := .slice A6 nL cp6) rfl rfl (by kernel_rfl) (by kernel_rfl) (by kernel_rfl) (by kernel_rfl) (fun w => by kernel_rfl) ?_
              refine reg_take hqr 6 (v := .int .i64 nL) rfl rfl (by kernel_rfl) (by kernel_rfl) (by kernel_rfl) (by kernel_rfl) (fun w => by kernel_rfl) ?_
              refine reg_take hqr 7 (v := .int .i64 kk) rfl rfl (by kernel_rfl) (by kernel_rfl) (by kernel_rfl) (by kernel_rfl) (fun w => by kernel_rfl) ?_
              refine reg_take hqr 8 (v := .int .i64 (IntKind.i64.wrap ((nL : Int) - (kk : Int)))) rfl rfl (by kernel_rfl) (by kernel_rfl) (by kernel_rfl) (by kernel_rfl) (fun w => by kernel_rfl) ?_
              refine reg_take hqr 9 (v := .bool ((r : Int) == (IntKind.i64.wrap ((nL : Int) - (kk : Int))))) rfl rfl (by kernel_rfl) (by kernel_rfl) (by kernel_rfl) (by kernel_rfl) (fun w => by kernel_rfl) ?_
              refine reg_take hqr 10 (v := .bool ((r : Int) == (IntKind.i64.wrap ((nL : Int) - (kk : Int))))) rfl rfl (by kernel_rfl) (by kernel_rfl) (by kernel_rfl) (by kernel_rfl) (fun w => by kernel_rfl) ?_
              simp only [hsub, m1]
              refine reg_take hqr 11 (v := .pointer (some ⟨p, 0, none⟩)) rfl rfl (by kernel_rfl) (by kernel_rfl) (by kernel_rfl) (by kernel_rfl) (fun w => by kernel_rfl) ?_
              refine reg_take hqr 12 (v := .int .i64 o) rfl rfl (by kernel_rfl) (by kernel_rfl) (by kernel_rfl) (by kernel_rfl) (fun w => by kernel_rfl) ?_
              refine reg_take hqr 14 (v := .slice A6 nL cp6) rfl rfl (by kernel_rfl) (by kernel_rfl) (by kernel_rfl) (by kernel_rfl) (fun w => by kernel_rfl) ?_
              refine reg_take hqr 15 (v := .int .i64 kk) rfl rfl (by kernel_rfl) (by kernel_rfl) (by kernel_rfl) (by kernel_rfl) (fun w => by kernel_rfl) ?_
              simp only [Act.put, List.setIfInBounds_toArray, List.set_cons_zero, List.set_cons_succ]
              refine reg_take hqr 16 (v := .slice A6 kk cp6) rfl rfl (by kernel_rfl) (by kernel_rfl) (by kernel_rfl) (by kernel_rfl) (fun w => by go_simp) ?_
              refine wpAny_ready (rs := [13]) (by kernel_rfl) (by simp) ?_
              refine AllReady.cons rfl (fun K hK => ?_) AllReady.nil
              rw [if_pos (by kernel_rfl)]
              go_simp
              go_at_call 14
              refine qw2.mono ?_
              rintro e w8 ⟨v8, rfl, o8, k8⟩
              obtain ⟨q2, q3, q7, hr, ht, J7⟩ := HRR.out
              rw [ht] at o8
              obtain ⟨A8, c8', rfl, -, -, r8⟩ := o8.rd
              have qs3 := same_is w8 A8 A6 c8' cp6 (zs (L.take kk)) (zs (L.take kk)) kk kk true r8 (q3.old k8) (by rw [zs_length, ht]) (by rw [zs_length, ht]) hk1m hk1m (by simp)
              have H8 := Hid.of (And.intro (q2.old k8) (And.intro (q7.old k8) (And.intro hr (J7.old k8))))
              clear o8 k8 r8 q2 q3 q7 hr ht J7
              refine hK _ _ ?_
              clear hK K
              refine wpAny_ready (rs := [17]) (by kernel_rfl) (by simp) ?_
              refine AllReady.cons rfl (fun K hK => ?_) AllReady.nil
              rw [if_pos (by kernel_rfl)]
              go_simp
              go_at_call 15
              refine qs3.mono ?_
              rintro e w9 ⟨rfl, k9⟩
              obtain ⟨q2, q7, hr, J8⟩ := H8.out
              have qs4 := same_is w9 A7 A2 c7' (cp6 - kk) (zs (L.drop kk)) (zs (L.drop kk)) r r true (q7.old k9) (q2.old k9) (by rw [zs_length, hr]) (by rw [zs_length, hr]) hr1m hr1m (by simp)
              have H9 := Hid.of (J8.old k9)
              clear k9 q2 q7 hr J8
              refine hK _ _ ?_
              clear hK K
              refine reg_take hqr 18 (v := .bool true) rfl rfl (by kernel_rfl) (by kernel_rfl) (by kernel_rfl) (by kernel_rfl) (fun w => by kernel_rfl) ?_
              refine reg_take hqr 19 (v := .bool true) rfl rfl (by kernel_rfl) (by kernel_rfl) (by kernel_rfl) (by kernel_rfl) (fun w => by kernel_rfl) ?_
              refine reg_take hqr 20 (v := .slice A7 r c7') rfl rfl (by kernel_rfl) (by kernel_rfl) (by kernel_rfl) (by kernel_rfl) (fun w => by kernel_rfl) ?_
              refine reg_take hqr 21 (v := .slice A6 nL cp6) rfl rfl (by kernel_rfl) (by kernel_rfl) (by kernel_rfl) (by kernel_rfl) (fun w => by kernel_rfl) ?_
              refine reg_take hqr 22 (v := .int .i64 kk) rfl rfl (by kernel_rfl) (by kernel_rfl) (by kernel_rfl) (by kernel_rfl) (fun w => by kernel_rfl) ?_
              simp only [Act.put, List.setIfInBounds_toArray, List.set_cons_zero, List.set_cons_succ]
              refine reg_take hqr 23 (v := .slice A2 r (cp6 - kk)) rfl rfl (by kernel_rfl) (by kernel_rfl) (by kernel_rfl) (by kernel_rfl) (fun w => by go_simp) ?_
              refine wpAny_ready (rs := [24]) (by kernel_rfl) (by simp) ?_
              refine AllReady.cons rfl (fun K hK => ?_) AllReady.nil
              rw [if_pos (by kernel_rfl)]
              go_simp
              go_at_call 15
              refine qs4.mono ?_
              rintro e w10 ⟨rfl, k10⟩
              have H10 := Hid.of (H9.out.old k10)
              clear k10
              refine hK _ _ ?_
              clear hK K
              refine reg_take hqr 25 (v := .bool true) rfl rfl (by kernel_rfl) (by kernel_rfl) (by kernel_rfl) (by kernel_rfl) (fun w => by kernel_rfl) ?_
              refine reg_take hqr 26 (v := .bool true) rfl rfl (by kernel_rfl) (by kernel_rfl) (by kernel_rfl) (by kernel_rfl) (fun w => by kernel_rfl) ?_
              refine reg_take hqr 27 (v := .bool true) rfl rfl (by kernel_rfl) (by kernel_rfl) (by kernel_rfl) (by kernel_rfl) (fun w => by kernel_rfl) ?_
              simp only [Act.put, List.setIfInBounds_toArray, List.set_cons_zero, List.set_cons_succ]
              refine wpAny_done (by kernel_rfl) ?_ _
              refine hqn _ _ ?_
              clear hqr hqn QR
              go_wp2
              go_ret
              exact ⟨by kernel_rfl, H10.out.k⟩
  · have hn' : n < 1 ∨ 32 < n := by omega
    have qn := new_bad w n hn'
    clear hn hn' hT hr
    go_enter Tryd.func3, Tryd.ntmps3
    go_wp2_with fail
    refine qn.mono ?_
    rintro e w1 ⟨rfl, rfl⟩
    go_wp2_with fail
    obtain ⟨o, ho⟩ : ∃ o : Int, wrap64 ((IntKind.u64.wrap ow).tmod 8) = o := ⟨_, rfl⟩
    rw [ho]
    clear ho qn
    refine (qa w (Keeps.refl _ _)).mono ?_
    rintro e w3 ⟨rfl, k3⟩
    have qa3 := qa w3 k3
    have HK3 := Hid.of k3
    clear k3 qa
    by_cases hbig : 300 < m
    · have hd : decide ((300 : Int) < (m : Int)) = true := by simp; omega
      go_wp2_with fail
      refine qa3.mono ?_
      rintro e w4 ⟨rfl, k4⟩
      have HK4 := Hid.of (HK3.out.trans k4)
      clear qa3 k4
      go_wp2
      go_ret
      exact ⟨rfl, HK4.out⟩
    · have hd : decide ((300 : Int) < (m : Int)) = false := by simp; omega
      clear hbig
      go_wp2_with fail
      refine qa3.mono ?_
      rintro e w4 ⟨rfl, k4⟩
      have HK4 := Hid.of (HK3.out.trans k4)
      clear qa3 k4
      go_wp2
      go_ret
      exact ⟨rfl, HK4.out⟩
end Po
end Go.Proofs.YtcjdejhjbelggaaDoor
