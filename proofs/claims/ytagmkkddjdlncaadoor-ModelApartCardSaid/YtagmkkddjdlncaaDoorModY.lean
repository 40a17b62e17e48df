/- Two models side by side. | ModelCopy's walk. -/
import Derived.Test.YtagmkkddjdlncaaDoorModX
import Derived.Test.YtagmkkddjdlncaaDoorModL
import Derived.Test.YtagmkkddjdlncaaDoorLong
import Derived.Test.YtagmkkddjdlncaaDoorApp
import Derived.Deep.RegionHeld3
set_option linter.unusedVariables false
set_option linter.unusedSimpArgs false
/-! Two models side by side. -/
namespace Go.Proofs.YtagmkkddjdlncaaDoor
open Go.RowKit Go.ChangeMaps
namespace Mo
/-- Two models of the call's own that share no block. -/
def Two (w0 w : World) (m : Nat) (M : MM) (p : Pls) (d : Nat) (D : MM) (q : Pls) : Prop := MN w0 m M p w ∧ MN w0 d D q w ∧ ∀ x, MFp m M p x → ¬ MFp d D q x
theorem Two.swap {w0 w : World} {m d : Nat} {M D : MM} {p q : Pls} (h : Two w0 w m M p d D q) : Two w0 w d D q m M p := ⟨h.2.1, h.1, fun x h1 h2 => h.2.2 x h2 h1⟩
theorem Two.old {w0 w w' : World} {m d : Nat} {M D : MM} {p q : Pls} (h : Two w0 w m M p d D q) (k : Keeps (fun _ => False) w w') : Two w0 w' m M p d D q := ⟨h.1.old k, h.2.1.old k, h.2.2⟩
theorem MN.beside {w0 w w' : World} {d : Nat} {D : MM} {q : Pls} {F : Nat → Prop} (h : MN w0 d D q w) (K : Keeps F w w') (hf : ∀ x, MFp d D q x → ¬ F x) (k0 : Keeps (fun _ => False) w0 w') : MN w0 d D q w' := ⟨h.at'.keep K hf, k0, h.fresh⟩
theorem Two.left {w0 w w' : World} {m d : Nat} {M M' D : MM} {p q : Pls} (h : Two w0 w m M p d D q) (r : MR w m M p M' w') : ∃ p', Two w0 w' m M' p' d D q ∧ Keeps (MFp m M p) w w' ∧ (∀ x, MFp m M' p' x → MFp m M p x ∨ w.heap.size ≤ x) := by
  obtain ⟨p', N, K, F⟩ := h.1.step r
  refine ⟨p', ⟨N, h.2.1.beside K (fun x hx hm => h.2.2 x hm hx) N.keeps, fun x hx hd => ?_⟩, K, F⟩
  rcases F x hx with h1 | h1
  · exact h.2.2 x h1 hd
  · have := h.2.1.at'.lt hd; omega
theorem Two.right {w0 w w' : World} {m d : Nat} {M D D' : MM} {p q : Pls} (h : Two w0 w m M p d D q) (r : MR w d D q D' w') : ∃ q', Two w0 w' m M p d D' q' ∧ Keeps (MFp d D q) w w' ∧ (∀ x, MFp d D' q' x → MFp d D q x ∨ w.heap.size ≤ x) := by
  obtain ⟨q', h1, h2, h3⟩ := h.swap.left r
  exact ⟨q', h1.swap, h2, h3⟩
theorem MN.copied {w0 w w' : World} {m c : Nat} {M : MM} {p p' : Pls} (h : MN w0 m M p w) (C : MAt w' c M p') (fr : ∀ x, MFp c M p' x → w.heap.size ≤ x) (k : Keeps (fun _ => False) w w') : Two w0 w' m M p c M p' :=
  ⟨h.old k, ⟨C, h.keeps.trans k, fun x hx => Nat.le_trans h.keeps.size (fr x hx)⟩, fun x hx hc => by have := h.at'.lt hx; have := fr x hc; omega⟩
/-- The models behind operations, their answers. -/
def mst (M : MM) (l : List GOp) : MM := l.foldl (fun M o => (mdo M o.op).2) M
theorem mst_snoc (M : MM) (l : List GOp) (o : GOp) : mst M (l ++ [o]) = (mdo (mst M l) o.op).2 := by simp [mst]
def mans (M : MM) : List GOp → List XAns
  | [] => []
  | o :: l => (mdo M o.op).1 :: mans (mdo M o.op).2 l
theorem mans_snoc : ∀ (l : List GOp) (M : MM) (o : GOp), mans M (l ++ [o]) = mans M l ++ [(mdo (mst M l) o.op).1]
  | [], M, o => rfl
  | x :: l, M, o => by
    show (mdo M x.op).1 :: mans (mdo M x.op).2 (l ++ [o]) = _
    rw [mans_snoc l]; rfl
theorem mans_len : ∀ (l : List GOp) (M : MM), (mans M l).length = l.length
  | [], M => rfl
  | x :: l, M => by show (mans (mdo M x.op).2 l).length + 1 = _; rw [mans_len l]; rfl
theorem mans_get : ∀ (l : List GOp) (M : MM) (j : Nat) (o : GOp), l[j]? = some o → (mans M l)[j]? = some (mdo (mst M (l.take j)) o.op).1
  | [], M, j, o, h => by simp at h
  | x :: l, M, 0, o, h => by simp at h; subst h; rfl
  | x :: l, M, j + 1, o, h => by
    show (mans (mdo M x.op).2 l)[j]? = _
    rw [mans_get l _ j o (by simpa using h)]; rfl
theorem mst_ok {M : MM} (h : MOk M) : ∀ l : List GOp, MOk (mst M l) := by
  intro l
  induction l generalizing M with
  | nil => exact h
  | cons o l ih => exact ih (h.mdo o.op)
theorem ptr_some (M : MM) (p : Pls) (i : Nat) (h : i < 8) : (prt (ptr M p) i).isSome = (M.T i).isSome := by
  unfold prt ptr
  rw [if_pos (by omega)]
  simp
theorem keep_cellA {F : Nat → Prop} {w w' : World} {a : Addr} {v : Value} (k : Keeps F w w') (h : w.cell? a = some v) (hf : ¬ F a.block) : w'.cell? a = some v := by
  have hlt := World.block_lt_of_cell? w _ h
  rw [World.cell?_of_block (k.block _ hlt hf)]; exact h
theorem Two.app {e sz n : Nat} {w0 w w' : World} {m d : Nat} {M D : MM} {p q : Pls} {v v' : Value} {cs ds : List Value} (T : Two w0 w m M p d D q) (ho : OutR e sz w0.heap.size w v n cs) (hf : ∀ g, v.ownBlock = some g → ¬ MFp m M p g ∧ ¬ MFp d D q g)
    (o : Own w' e sz v' (n + 1) (cs ++ ds)) (k : Keeps (fun b => v.ownBlock = some b) w w') (at' : v'.ownBlock = v.ownBlock ∨ v'.ownBlock = some (w.heap.size + 1)) :
    Two w0 w' m M p d D q ∧ OutR e sz w0.heap.size w' v' (n + 1) (cs ++ ds) ∧ (∀ g, v'.ownBlock = some g → ¬ MFp m M p g ∧ ¬ MFp d D q g) := by
  have k0 := ho.keeps T.1.keeps k
  refine ⟨⟨T.1.beside k (fun x hx hg => (hf x hg).1 hx) k0, T.2.1.beside k (fun x hx hg => (hf x hg).2 hx) k0, T.2.2⟩, ho.app o at' T.1.keeps.size, fun g hg => ?_⟩
  rcases at' with h | h
  · exact hf g (by rw [← h]; exact hg)
  · rw [h] at hg
    injection hg with hg
    exact ⟨fun hx => by have := T.1.at'.lt hx; omega, fun hx => by have := T.2.1.at'.lt hx; omega⟩
theorem anss_snoc' (L : List XAns) (x : XAns) : anss (L ++ [x]) = anss L ++ x.enc := by simp [anss]
theorem outR_keep {F : Nat → Prop} {e sz B n : Nat} {w w' : World} {v : Value} {cs : List Value} (h : OutR e sz B w v n cs) (k : Keeps F w w') (hf : ∀ g, v.ownBlock = some g → ¬ F g) : OutR e sz B w' v n cs := ⟨h.1.keep k hf, h.2⟩
end Mo
end Go.Proofs.YtagmkkddjdlncaaDoor

/-! ModelCopy's walk. -/
namespace Go.Proofs.YtagmkkddjdlncaaDoor
open Go.RowKit Go.ChangeMaps
attribute [-go_sem] run_neq_struct run_eql_struct run_equalIn_agg
attribute [go_sem] neq_ans
namespace Mo
theorem alloc6 (w : World) (cs : Array Value) (t : TypeId) : ∃ w1, w.alloc (.cells cs t) = w1 ∧ Keeps (fun _ => False) w w1 ∧ w1.heap[w.heap.size]? = some (.cells cs t (0, 0)) := ⟨_, rfl, (Keeps.refl _ _).alloc _, alloc_new _ _⟩
set_option maxRecDepth 100000 in
set_option maxHeartbeats 600000 in
theorem copyLaw_any (w : World) (Pg C : Int) (A B : Option Addr) (ca cb : Nat) (xs ys : List GOp) (La Lb : Nat) (hLa : xs.length = La) (hLb : ys.length = Lb) (ra : Rd w A (gops xs)) (rb : Rd w B (gops ys)) (oka : ∀ x ∈ xs, x.Ok) (okb : ∀ x ∈ ys, x.Ok) (hla : xs.length ≤ maxLen) (hlb : ys.length ≤ maxLen) (hT : Sh.Tab w) :
    Calls Tryd.prog 5 #[.agg #[.int .i64 Pg, .int .i64 C], .slice A La ca, .slice B Lb cb] w fun e w' => e = .returned (.bool true) ∧ Keeps (fun _ => False) w w' := by
  obtain ⟨cb0, hcb⟩ : ∃ cb, w.heap.size = cb := ⟨_, rfl⟩
  obtain ⟨w1, hw1, k1, b1⟩ := alloc6 w #[.int .i64 Pg, .int .i64 C] 23
  rw [hcb] at b1
  have qa := fun wx (k : Keeps (fun _ => False) w wx) => awake_any wx (hT.old k)
  have c0 := cell_of (v := .int .i64 Pg) b1 0 rfl
  have c1 := cell_of (v := .int .i64 C) b1 1 rfl
  have HK1 := Hid.of (And.intro k1 b1)
  have HA := Hid.of (And.intro hLa (And.intro ra (And.intro oka hla)))
  have HB := Hid.of (And.intro hLb (And.intro rb (And.intro okb hlb)))
  have HT := Hid.of hT
  clear k1 b1 hT ra rb oka okb hla hlb hLa hLb
  by_cases hc : cfg Pg C
  case neg =>
    have qn := new_bad w1 Pg C hc
    clear hc
    go_enter Tryd.func5, Tryd.ntmps5
    go_wp2_with fail
    refine qn.mono ?_
    rintro e w2 ⟨rfl, k2⟩
    have HK2 := Hid.of (HK1.out.1.trans k2)
    clear qn k2 c0 c1
    go_wp2_with fail
    refine (qa w2 HK2.out).mono ?_
    rintro e w3 ⟨rfl, k3⟩
    have HK3 := Hid.of (HK2.out.trans k3)
    clear k3 HK2
    go_wp2_with fail
    refine (qa w3 HK3.out).mono ?_
    rintro e w4 ⟨rfl, k4⟩
    have HK4 := Hid.of (HK3.out.trans k4)
    clear k4 HK3 qa
    go_wp2
    go_ret
    exact ⟨rfl, HK4.out⟩
  case pos =>
    have qn := new_any w1 Pg C hc
    unfold NewR at qn
    have hc' := hc
    obtain ⟨hc1, hc2, hc3, hc4, -⟩ := hc'
    obtain ⟨Pn, rfl⟩ : ∃ n : Nat, Pg = n := ⟨Pg.toNat, by omega⟩
    obtain ⟨Cn, rfl⟩ : ∃ n : Nat, C = n := ⟨C.toNat, by omega⟩
    have HC := Hid.of hc
    clear hc hc1 hc2 hc3 hc4
    go_enter Tryd.func5, Tryd.ntmps5
    go_wp2_with fail
    refine qn.mono ?_
    rintro e w2 ⟨m, rfl, hm, h0, k2⟩
    have b2 := k2.at HK1.out.2 (fun x => x)
    obtain ⟨p, N2⟩ : ∃ p, Hid (MN w m (new Pn Cn) p w2) := ⟨_, Hid.of (MN.new hm (Nat.le_trans HK1.out.1.size h0) (HK1.out.1.trans k2) HT.out)⟩
    have OK0 := Hid.of (MOk.new HC.out)
    have HK2 := Hid.of (And.intro (HK1.out.1.trans k2) b2)
    clear qn hm h0 k2 b2 c0 c1 HK1
    go_wp2_with fail
    refine (qa w2 HK2.out.1).mono ?_
    rintro e w3 ⟨rfl, k3⟩
    have N3 := Hid.of (N2.out.old k3)
    have b3 := k3.at HK2.out.2 (fun x => x)
    have c0 := cell_of (v := .int .i64 (Pn : Int)) b3 0 rfl
    have c1 := cell_of (v := .int .i64 (Cn : Int)) b3 1 rfl
    have HK3 := Hid.of (And.intro (HK2.out.1.trans k3) b3)
    clear k3 b3 N2 HK2
    have ql := long_any w3 Pn Cn A ca xs La 100 HA.out.1 (HA.out.2.1.old HK3.out.1) HA.out.2.2.1 HA.out.2.2.2 (by omega)
    unfold LongR at ql
    go_wp2_with fail
    refine ql.mono ?_
    rintro e w4 ⟨r1, rfl, k4, hr1⟩
    have N4 := Hid.of (N3.out.old k4)
    have HK4 := Hid.of (And.intro (HK3.out.1.trans k4) (k4.at HK3.out.2 (fun x => x)))
    clear ql k4 N3 HK3 c0 c1
    cases r1
    case true =>
      clear hr1
      go_wp2_with fail
      refine (qa w4 HK4.out.1).mono ?_
      rintro e w5 ⟨rfl, k5⟩
      have HK5 := Hid.of (HK4.out.1.trans k5)
      clear k5 HK4 qa
      go_wp2
      go_ret
      exact ⟨rfl, HK5.out⟩
    case false =>
      have HX := Hid.of (hr1 rfl)
      have c0 := cell_of (v := .int .i64 (Pn : Int)) HK4.out.2 0 rfl
      have c1 := cell_of (v := .int .i64 (Cn : Int)) HK4.out.2 1 rfl
      clear hr1
      have ql := long_any w4 Pn Cn B cb ys Lb 60 HB.out.1 (HB.out.2.1.old HK4.out.1) HB.out.2.2.1 HB.out.2.2.2 (by omega)
      unfold LongR at ql
      go_wp2_with fail
      refine ql.mono ?_
      rintro e w5 ⟨r2, rfl, k5, hr2⟩
      have N5 := Hid.of (N4.out.old k5)
      have HK5 := Hid.of (HK4.out.1.trans k5)
      clear ql k5 N4 HK4 c0 c1
      cases r2
      case true =>
        clear hr2
        go_wp2_with fail
        refine (qa w5 HK5.out).mono ?_
        rintro e w6 ⟨rfl, k6⟩
        have HK6 := Hid.of (HK5.out.trans k6)
        clear k6 HK5 qa
        go_wp2
        go_ret
        exact ⟨rfl, HK6.out⟩
      case false =>
        have HY := Hid.of (hr2 rfl)
        clear hr2 HK5 qa
        go_wp2
        go_loopw [42] (fun i wr => ∃ (k : Nat) (p : Pls), k ≤ La ∧ i = .int .i64 k ∧ Hid (MN w m (mst (new Pn Cn) (xs.take k)) p wr)) (fun i _ => La - (intOf i).toNat)
        case atStart => exact ⟨0, p, by omega, rfl, N5⟩
        case round =>
          clear N5
          obtain ⟨k, p', hk, rfl, HI⟩ := hrel
          have hLa : La ≤ 100 := by have := HX.out.1; have := HA.out.1; omega
          by_cases hlt : k < La
          · obtain ⟨b, o, s, kk, t, n, mm, hh, d, hg, rfl, z0, z1, z2, z3, z4, z5⟩ := rgop (HA.out.2.1.old HI.out.keeps) k (by rw [HA.out.1]; exact hlt)
            have hkd : decide ((k : Int) < (La : Int)) = true := by simp; omega
            obtain ⟨w6, hw6, k6, b6⟩ := alloc6 wr #[.int .i64 kk, .int .i64 t, .int .i64 n, .int .i64 mm, .int .u64 hh, .string (bs d)] 34
            obtain ⟨ob, hob⟩ : ∃ ob, wr.heap.size = ob := ⟨_, rfl⟩
            rw [hob] at b6
            obtain ⟨⟨y0, y1, y2, y3, y4, y5⟩, -⟩ := six_cells b6
            have okx := HA.out.2.2.1 _ (List.mem_of_getElem? hg)
            have hdl := HX.out.2 _ (List.mem_of_getElem? hg)
            have N6 := Hid.of (HI.out.old k6)
            have q := mdo_any' w6 m _ p' kk t n mm hh d N6.out.at' (mst_ok OK0.out _) (N6.out.tab HT.out) okx.h (by show d.length ≤ _; have : d.length ≤ 128 * 100 + 15 := hdl; omega) okx.n okx.m
            have hst : mst (new Pn Cn) (xs.take (k + 1)) = (mdo (mst (new Pn Cn) (xs.take k)) ⟨kk, t, n, mm, hh, bs d⟩).2 := by rw [take_get hg, mst_snoc]; rfl
            rw [← hst] at q
            generalize (mdo (mst (new Pn Cn) (xs.take k)) ⟨kk, t, n, mm, hh, bs d⟩).1 = a at q
            obtain ⟨ae, ah, aa, an, ad, ac⟩ := a
            unfold MDoR XAns.enc at q
            dsimp only at q
            clear hst okx hdl k6 b6 hg HI
            go_wp2_with fail
            refine q.mono ?_
            rintro e w7 ⟨rfl, r⟩
            obtain ⟨p7, N7, -, -⟩ := N6.out.step r
            have HN7 := Hid.of N7
            clear q r N7 N6
            go_wp2
            go_roundw
            case rel => exact ⟨k + 1, p7, by omega, by go_num, HN7⟩
            case measure => simp [intOf]; omega
          · have hkd : decide ((k : Int) < (La : Int)) = false := by simp; omega
            have hkdn : decide (k < La) = false := by simp; omega
            have q := copy_any wr m _ p' HI.out.at' (mst_ok OK0.out (xs.take k)) (HI.out.tab HT.out)
            have OK1 := Hid.of (mst_ok OK0.out (xs.take k))
            generalize mst (new Pn Cn) (xs.take k) = M1 at q OK1 HI
            unfold CopyR at q
            clear hlt hk OK0
            go_wp2_with fail
            refine q.mono ?_
            rintro e w6 ⟨dd, q0, rfl, C6, f6, k6⟩
            have T6 := Hid.of (HI.out.copied C6 f6 k6)
            clear q C6 f6 k6 HI hkd
            go_wp2
            go_loopw [12, 54] (fun v i wr => ∃ (k : Nat) (p q : Pls), k ≤ Lb ∧ i = .int .i64 k ∧ Hid (Two w wr m (mst M1 (ys.take k)) p dd M1 q ∧ OutR 36 6 w.heap.size wr v k (anss (mans M1 (ys.take k))) ∧ (∀ g, v.ownBlock = some g → ¬ MFp m (mst M1 (ys.take k)) p g ∧ ¬ MFp dd M1 q g))) (fun v i _ => Lb - (intOf i).toNat)
            case atStart => exact ⟨0, p', q0, by omega, rfl, Hid.of ⟨T6.out, OutR.nil _ _ _ _, fun g hg => by simp [Value.ownBlock] at hg⟩⟩
            case round =>
              clear T6
              obtain ⟨j, p6, q6, hj, rfl, HI⟩ := hrel
              have hLb : Lb ≤ 60 := by have := HY.out.1; have := HB.out.1; omega
              by_cases hlt : j < Lb
              · obtain ⟨b, o, s, kk, t, n, mm, hh, d, hg, rfl, z0, z1, z2, z3, z4, z5⟩ := rgop (HB.out.2.1.old HI.out.1.1.keeps) j (by rw [HB.out.1]; exact hlt)
                have hkd : decide ((j : Int) < (Lb : Int)) = true := by simp; omega
                obtain ⟨w7, hw7, k7, b7⟩ := alloc6 wr #[.int .i64 kk, .int .i64 t, .int .i64 n, .int .i64 mm, .int .u64 hh, .string (bs d)] 34
                obtain ⟨ob, hob⟩ : ∃ ob, wr.heap.size = ob := ⟨_, rfl⟩
                rw [hob] at b7
                obtain ⟨⟨y0, y1, y2, y3, y4, y5⟩, -⟩ := six_cells b7
                have okx := HB.out.2.2.1 _ (List.mem_of_getElem? hg)
                have hdl := HY.out.2 _ (List.mem_of_getElem? hg)
                have T7 := Hid.of (HI.out.1.old k7)
                have HO := Hid.of (And.intro (HI.out.2.1.old k7) HI.out.2.2)
                have q := mdo_any' w7 m _ p6 kk t n mm hh d T7.out.1.at' (mst_ok OK1.out _) (T7.out.1.tab HT.out) okx.h (by show d.length ≤ _; have : d.length ≤ 128 * 60 + 15 := hdl; omega) okx.n okx.m
                have hst : mst M1 (ys.take (j + 1)) = (mdo (mst M1 (ys.take j)) ⟨kk, t, n, mm, hh, bs d⟩).2 := by rw [take_get hg, mst_snoc]; rfl
                have hsa : mans M1 (ys.take (j + 1)) = mans M1 (ys.take j) ++ [(mdo (mst M1 (ys.take j)) ⟨kk, t, n, mm, hh, bs d⟩).1] := by rw [take_get hg, mans_snoc]; rfl
                rw [← hst] at q
                have HST := Hid.of hsa
                generalize (mdo (mst M1 (ys.take j)) ⟨kk, t, n, mm, hh, bs d⟩).1 = a at q HST
                obtain ⟨ae, ah, aa, an, ad, ac⟩ := a
                unfold MDoR XAns.enc at q
                dsimp only at q
                clear hst hsa okx hdl k7 b7 hg HI
                go_wp2_with fail
                refine q.mono ?_
                rintro e w8 ⟨rfl, r⟩
                obtain ⟨p8, T8, K8, F8⟩ := T7.out.left r
                have o8 := outR_keep HO.out.1 K8 (fun g hg hx => (HO.out.2 g hg).1 hx)
                have f8 : ∀ g, u12.ownBlock = some g → ¬ MFp m (mst M1 (ys.take (j + 1))) p8 g ∧ ¬ MFp dd M1 q6 g := fun g hg => ⟨fun hx => by
                  rcases F8 g hx with h | h
                  · exact (HO.out.2 g hg).1 h
                  · have := HO.out.1.1.lt hg; omega, (HO.out.2 g hg).2⟩
                have HT8 := Hid.of (And.intro T8 (And.intro o8 f8))
                have o81 := o8.1
                clear q r T8 K8 F8 T7 HO o8 f8
                go_wp2_with (at_builtin; refine wpList_app1 slAns w8 rfl _ _ rfl u12 j (anss (mans M1 (ys.take j))) rfl o81 [.int .i64 ae, .int .u64 ah, .int .i64 aa, .int .i64 an, .string ad, .int .i64 ac] rfl rfl (by simp [Value.oneCell']) (by unfold maxLen; have := HY.out.1; have := HB.out.1; omega) (by have := HY.out.1; have := HB.out.1; omega) ?_; intro v' w9 o9 k9 at9)
                obtain ⟨T9, O9, f9⟩ := HT8.out.1.app HT8.out.2.1 HT8.out.2.2 o9 k9 at9
                have HF := Hid.of (And.intro T9 (And.intro O9 f9))
                clear o9 k9 at9 T9 O9 f9 HT8 o81
                go_roundw
                case rel =>
                  refine ⟨j + 1, p8, q6, by omega, by go_num, ?_⟩
                  have := HF.out
                  rw [HST.out, anss_snoc']
                  exact this
                case measure => simp [intOf]; omega
              · obtain rfl : j = Lb := by omega
                have hkd : decide ((j : Int) < (j : Int)) = false := by simp
                have hyt : ys.take j = ys := List.take_of_length_le (by rw [HB.out.1]; omega)
                rw [hyt] at HI
                obtain ⟨A3, cap3, rfl, hcap, hfr, hrd⟩ := HI.out.2.1.rd
                have T7 := Hid.of HI.out.1
                have HR3 := Hid.of (show Rd wr A3 (anss (mans M1 ys)) ∧ (∀ ad, A3 = some ad → ad.block < wr.heap.size ∧ ¬ MFp m (mst M1 ys) p6 ad.block ∧ ¬ MFp dd M1 q6 ad.block) from ⟨hrd, fun ad ha => ⟨(hfr ad ha).2, HI.out.2.2 ad.block (by rw [ha]; rfl)⟩⟩)
                clear hcap hfr hrd HI hyt hlt
                go_wp2
                go_loopw [67] (fun i wr => ∃ (k : Nat) (q : Pls), k ≤ j ∧ i = .int .i64 k ∧ Hid (Two w wr m (mst M1 ys) p6 dd (mst M1 (ys.take k)) q ∧ Rd wr A3 (anss (mans M1 ys)) ∧ (∀ ad, A3 = some ad → ad.block < wr.heap.size ∧ ¬ MFp m (mst M1 ys) p6 ad.block ∧ ¬ MFp dd (mst M1 (ys.take k)) q ad.block))) (fun i _ => j - (intOf i).toNat)
                case atStart => exact ⟨0, q6, by omega, rfl, Hid.of ⟨T7.out, HR3.out.1, HR3.out.2⟩⟩
                case round =>
                  clear T7 HR3
                  obtain ⟨l, q7, hl, rfl, HI⟩ := hrel
                  by_cases hlt : l < j
                  · obtain ⟨b, o, s, kk, t, n, mm, hh, d, hg, rfl, z0, z1, z2, z3, z4, z5⟩ := rgop (HB.out.2.1.old HI.out.1.1.keeps) l (by rw [HB.out.1]; exact hlt)
                    have hkd : decide ((l : Int) < (j : Int)) = true := by simp; omega
                    obtain ⟨w7, hw7, k7, b7⟩ := alloc6 wr #[.int .i64 kk, .int .i64 t, .int .i64 n, .int .i64 mm, .int .u64 hh, .string (bs d)] 34
                    obtain ⟨ob, hob⟩ : ∃ ob, wr.heap.size = ob := ⟨_, rfl⟩
                    rw [hob] at b7
                    obtain ⟨⟨y0, y1, y2, y3, y4, y5⟩, -⟩ := six_cells b7
                    have okx := HB.out.2.2.1 _ (List.mem_of_getElem? hg)
                    have hdl := HY.out.2 _ (List.mem_of_getElem? hg)
                    have T7 := Hid.of (HI.out.1.old k7)
                    have q := mdo_any' w7.drew dd _ q7 kk t n mm hh d (T7.out.2.1.at'.old ((Keeps.refl _ _).drew)) (mst_ok OK1.out _) ((T7.out.1.tab HT.out).old ((Keeps.refl _ _).drew)) okx.h (by show d.length ≤ _; have : d.length ≤ 128 * 60 + 15 := hdl; omega) okx.n okx.m
                    have hst : mst M1 (ys.take (l + 1)) = (mdo (mst M1 (ys.take l)) ⟨kk, t, n, mm, hh, bs d⟩).2 := by rw [take_get hg, mst_snoc]; rfl
                    have hga : (mans M1 ys)[l]? = some (mdo (mst M1 (ys.take l)) ⟨kk, t, n, mm, hh, bs d⟩).1 := mans_get ys M1 l _ hg
                    rw [← hst] at q
                    generalize (mdo (mst M1 (ys.take l)) ⟨kk, t, n, mm, hh, bs d⟩).1 = a at q hga
                    obtain ⟨ae, ah, aa, an, ad, ac⟩ := a
                    unfold MDoR XAns.enc at q
                    dsimp only at q
                    obtain ⟨b', o', s', x0, x1, x2, x3, x4, x5, hg', hA3, e0, e1, e2, e3, e4, e5⟩ := rans (HI.out.2.1.old k7) l (by rw [mans_len, HB.out.1]; exact hlt)
                    rw [hga] at hg'
                    injection hg' with hg'
                    injection hg' with i0 i1 i2 i3 i4 i5
                    subst i0 i1 i2 i3 i4 i5
                    have HH3 := Hid.of (And.intro HI.out.2.1 HI.out.2.2)
                    subst hA3
                    have hnb := (HH3.out.2 _ rfl)
                    have nob : ¬ MFp dd (mst M1 (ys.take l)) q7 ob := fun hx => by have := HI.out.1.2.1.at'.lt hx; omega
                    have HK7 := Hid.of (And.intro k7 (And.intro hnb nob))
                    have heq : ansEq ae ah aa an ad ac ae ah aa an ad ac = true := by simp [ansEq]
                    clear hst okx hdl k7 b7 hg HI hga hnb nob
                    go_wp2
                    go_region_held3 (fun wx : World => (wx.cell? ⟨ob, 0, none⟩ = some (.int .i64 kk) ∧ wx.cell? ⟨ob, 1, none⟩ = some (.int .i64 t) ∧ wx.cell? ⟨ob, 2, none⟩ = some (.int .i64 n) ∧ wx.cell? ⟨ob, 3, none⟩ = some (.int .i64 mm) ∧ wx.cell? ⟨ob, 4, none⟩ = some (.int .u64 hh) ∧ wx.cell? ⟨ob, 5, none⟩ = some (.string (bs d))) ∧
                      wx.cell? ((⟨b', o', s'⟩ : Addr).add (l * 6)) = some (.int .i64 ae) ∧ wx.cell? ⟨((⟨b', o', s'⟩ : Addr).add (l * 6)).block, ((⟨b', o', s'⟩ : Addr).add (l * 6)).off + 1, none⟩ = some (.int .u64 ah) ∧ wx.cell? ⟨((⟨b', o', s'⟩ : Addr).add (l * 6)).block, ((⟨b', o', s'⟩ : Addr).add (l * 6)).off + 2, none⟩ = some (.int .i64 aa) ∧ wx.cell? ⟨((⟨b', o', s'⟩ : Addr).add (l * 6)).block, ((⟨b', o', s'⟩ : Addr).add (l * 6)).off + 3, none⟩ = some (.int .i64 an) ∧ wx.cell? ⟨((⟨b', o', s'⟩ : Addr).add (l * 6)).block, ((⟨b', o', s'⟩ : Addr).add (l * 6)).off + 4, none⟩ = some (.string ad) ∧ wx.cell? ⟨((⟨b', o', s'⟩ : Addr).add (l * 6)).block, ((⟨b', o', s'⟩ : Addr).add (l * 6)).off + 5, none⟩ = some (.int .i64 ac))
                      (first | exact ⟨⟨y0, y1, y2, y3, y4, y5⟩, e0, e1, e2, e3, e4, e5⟩ | exact ⟨⟨v0, v1, v2, v3, v4, v5⟩, f0, f1, f2, f3, f4, f5⟩)
                      (first | (go_at_call 9; refine q.mono ?_; clear q; rintro e w8 ⟨rfl, p8', A8, K8', F8'⟩; have K8 := K8'.of_drew; have v0 := keep_cellA K8 y0 HK7.out.2.2; have v1 := keep_cellA K8 y1 HK7.out.2.2; have v2 := keep_cellA K8 y2 HK7.out.2.2; have v3 := keep_cellA K8 y3 HK7.out.2.2; have v4 := keep_cellA K8 y4 HK7.out.2.2; have v5 := keep_cellA K8 y5 HK7.out.2.2; have hb' : ¬ MFp dd (mst M1 (ys.take l)) q7 ((⟨b', o', s'⟩ : Addr).add (l * 6)).block := (by rw [block_add]; exact HK7.out.2.1.2.2); have f0 := keep_cellA K8 e0 hb'; have f1 := keep_cellA K8 e1 hb'; have f2 := keep_cellA K8 e2 hb'; have f3 := keep_cellA K8 e3 hb'; have f4 := keep_cellA K8 e4 hb'; have f5 := keep_cellA K8 e5 hb'))
                    obtain ⟨p8, T8, K9, F9⟩ := T7.out.right (show MR w7 dd (mst M1 (ys.take l)) q7 (mst M1 (ys.take (l + 1))) w8 from ⟨p8', A8, K8, F8'⟩)
                    have HF := Hid.of (show Two w w8 m (mst M1 ys) p6 dd (mst M1 (ys.take (l + 1))) p8 ∧ Rd w8 (some ⟨b', o', s'⟩) (anss (mans M1 ys)) ∧ (∀ ad, some (⟨b', o', s'⟩ : Addr) = some ad → ad.block < w8.heap.size ∧ ¬ MFp m (mst M1 ys) p6 ad.block ∧ ¬ MFp dd (mst M1 (ys.take (l + 1))) p8 ad.block) from by
                      obtain ⟨r3, hn3⟩ := HH3.out
                      refine ⟨T8, (r3.old HK7.out.1).keep K9 (fun ad ha _ => (hn3 ad ha).2.2), fun ad ha => ?_⟩
                      obtain ⟨g1, g2, g3⟩ := hn3 ad ha
                      have s1 := HK7.out.1.size
                      have s2 := K9.size
                      refine ⟨by omega, g2, fun hx => ?_⟩
                      rcases F9 _ hx with h | h
                      · exact g3 h
                      · omega)
                    clear p8' A8 K8' F8' K8 v0 v1 v2 v3 v4 v5 hb' f0 f1 f2 f3 f4 f5 T8 K9 F9 T7 HK7 HH3
                    go_wp2
                    go_roundw
                    case rel => exact ⟨l + 1, p8, by omega, by go_num, HF⟩
                    case measure => simp [intOf]; omega
                  · obtain rfl : l = j := by omega
                    have hkd : decide ((l : Int) < (l : Int)) = false := by simp
                    have hyt : ys.take l = ys := List.take_of_length_le (by rw [HB.out.1]; omega)
                    rw [hyt] at HI
                    have T8 := Hid.of HI.out.1
                    have OK2 := Hid.of (mst_ok OK1.out ys)
                    clear HI hyt hlt
                    generalize mst M1 ys = M2 at T8 OK2
                    go_wp2
                    go_loopw [81] (fun i wr => ∃ (z : Nat), z ≤ 8 ∧ i = .int .i64 z ∧ Hid (Two w wr m M2 p6 dd M2 q7)) (fun i _ => 8 - (intOf i).toNat)
                    case atStart => exact ⟨0, by omega, rfl, T8⟩
                    case round =>
                      clear T8
                      obtain ⟨z, hz, rfl, HI⟩ := hrel
                      by_cases hz8 : z < 8
                      · have hzi : (z : Int) < 8 := by omega
                        have q1 := live_any wr m M2.Pg M2.C (ptr M2 p6) (fun i => (M2.s i : Int)) z HI.out.1.at'.cells
                        have q2 := live_any wr dd M2.Pg M2.C (ptr M2 q7) (fun i => (M2.s i : Int)) z HI.out.2.1.at'.cells
                        rw [ptr_some _ _ _ hz8] at q1 q2
                        have q3 := chargedM_any wr m M2 p6 z hz8 HI.out.1.at' OK2.out
                        have q4 := fun wx (k : Keeps (fun _ => False) wr wx) => chargedM_any wx dd M2 q7 z hz8 (HI.out.2.1.at'.old k) OK2.out
                        generalize (M2.T z).isSome = bz at q1 q2
                        generalize charged M2 z = cz at q3 q4
                        have e1 : (bz != bz) = false := by simp
                        have e2 : ((cz : Int) != (cz : Int)) = false := by simp
                        go_wp2_with fail
                        refine q1.mono ?_
                        rintro e w9 ⟨rfl, rfl⟩
                        clear q1
                        go_wp2_with fail
                        refine q2.mono ?_
                        rintro e w9 ⟨rfl, rfl⟩
                        clear q2
                        go_wp2_with fail
                        refine q3.mono ?_
                        rintro e w9 ⟨rfl, k9⟩
                        clear q3
                        have q := q4 w9 k9
                        clear q4
                        go_wp2_with fail
                        refine q.mono ?_
                        rintro e w10 ⟨rfl, k10⟩
                        have HF := Hid.of (HI.out.old (k9.trans k10))
                        clear q k9 k10 HI
                        go_wp2
                        go_roundw
                        case rel => exact ⟨z + 1, by omega, by go_num, HF⟩
                        case measure => simp [intOf]; omega
                      · obtain rfl : z = 8 := by omega
                        have HF := Hid.of HI.out.1.keeps
                        clear HI
                        go_wp2
                        go_ret
                        exact ⟨rfl, HF.out⟩
end Mo
end Go.Proofs.YtagmkkddjdlncaaDoor
