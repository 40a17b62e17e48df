/- HeapFew's walk. -/
import Derived.Test.YtnheibcjcgacpaaGreatDoorHmd
import Derived.Test.YtnheibcjcgacpaaGreatDoorHop
import Derived.Test.YtnheibcjcgacpaaGreatDoorFewB
import Derived.Test.YtnheibcjcgacpaaGreatDoorHwn
import Derived.Test.YtnheibcjcgacpaaGreatDoorBlk
set_option linter.unusedVariables false
set_option linter.unusedSimpArgs false
namespace Go.Proofs.YtnheibcjcgacpaaGreatDoor
open Go.RowKit Go.ChangeMaps
namespace Hm
open He Hin Rf Few
def FewR (w : World) (e : Ending) (w' : World) : Prop := e = .returned (.bool true) ∧ Keeps (fun _ => False) w w'
set_option maxRecDepth 100000 in
set_option maxHeartbeats 2000000 in
theorem few_bad (w : World) (P C q : Int) (A0 A1 A : Option Addr) (n0 c0 n1 c1 L cap : Nat) (hT : Sh.Tab w) (h : ¬ Co.Cfg P C) :
    Calls Tryz.prog 3 #[.agg #[.int .i64 P, .int .i64 C, .slice A0 n0 c0, .slice A1 n1 c1], .slice A L cap, .int .i64 q] w (FewR w) := by
  obtain ⟨w1, hw1⟩ : ∃ w1, w.alloc (.cells #[.int .i64 P, .int .i64 C, .slice A0 n0 c0, .slice A1 n1 c1] 26) = w1 := ⟨_, rfl⟩
  have k1 : Keeps (fun _ => False) w w1 := by rw [← hw1]; exact (Keeps.refl _ _).alloc _
  have b1 : w1.heap[w.heap.size]? = some (.cells #[.int .i64 P, .int .i64 C, .slice A0 n0 c0, .slice A1 n1 c1] 26 (0, 0)) := by rw [← hw1]; exact alloc_new _ _
  obtain ⟨cb, hcb⟩ : ∃ cb, w.heap.size = cb := ⟨_, rfl⟩
  rw [hcb] at b1
  have x0 := cell_of (v := .int .i64 P) b1 0 rfl
  have x1 := cell_of (v := .int .i64 C) b1 1 rfl
  have x2 := cell_of (v := .slice A0 n0 c0) b1 2 rfl
  have x3 := cell_of (v := .slice A1 n1 c1) b1 3 rfl
  have q1 := made_bad w1 P C A0 A1 n0 c0 n1 c1 h
  have HK := Hid.of (And.intro k1 hT)
  clear h k1 b1 hT
  go_enter Tryz.func3, Tryz.ntmps3
  go_wp2_with fail
  refine q1.mono ?_
  rintro e w2 ⟨rfl, k2⟩
  have HK2 := Hid.of (HK.out.1.trans k2)
  have q2 := awake_any w2 (HK.out.2.old HK2.out)
  clear q1 k2 hw1 hcb
  go_wp2_with fail
  refine q2.mono ?_
  rintro e w3 ⟨rfl, k3⟩
  have HK3 := Hid.of (HK2.out.trans k3)
  have q3 := awake_any w3 (HK.out.2.old HK3.out)
  clear q2 k3
  go_wp2_with fail
  refine q3.mono ?_
  rintro e w4 ⟨rfl, k4⟩
  have HK4 := Hid.of (HK3.out.trans k4)
  clear q3 k4
  go_wp2
  go_ret
  exact ⟨rfl, HK4.out⟩
/-- What holds in the loop. -/
structure LI (w : World) (m : MX) (P C : Nat) (W0 : List Int) (X0 : HX) (wM : World) (q : Nat) (xs : List HOp) (k : Nat) (cost : Nat) (t : T3) (X : HX) (g : Int → Pg.Pla) (v : Value) (wr : World) : Prop where
  g : HG wM X0 g0 m.p m.v m.cp [] (nM P C).C X g v t.H t.S t.M wr
  hi : HI t
  fi : FI t cost q
  W : t.H.W = W0
  T : t.S.T.length ≤ 20 * k
  K : Keeps (fun _ => False) w wr
theorem LI.old {w : World} {m : MX} {P C : Nat} {W0 : List Int} {X0 : HX} {wM : World} {q : Nat} {xs : List HOp} {k cost : Nat} {t : T3} {X : HX} {g : Int → Pg.Pla} {v : Value} {wr w' : World} (h : LI w m P C W0 X0 wM q xs k cost t X g v wr) (kk : Keeps (fun _ => False) wr w') : LI w m P C W0 X0 wM q xs k cost t X g v w' :=
  have r := HG.refl h.g.j kk
  have hg : HG wM X0 g0 m.p m.v m.cp [] (nM P C).C X g v t.H t.S t.M w' := by
    rw [h.g.c] at r
    exact h.g.trans r
  { h with g := hg, K := h.K.trans kk }
theorem sub_fits {a b u : Nat} (h : a = b + u) (h2 : a ≤ 65536) : wrap64 ((a : Int) - (u : Int)) = (b : Int) := by
  unfold wrap64
  omega
theorem fi_new {W0 : List Int} {P C q : Nat} : FI (nT W0 P C) 0 q := by
  have hz : ∀ n (f : Nat → Nat), (∀ i, i < n → f i = 0) → rsum n f = 0 := by
    intro n f hf
    induction n with
    | zero => rfl
    | succ n ih =>
      unfold rsum
      rw [ih (fun i hi => hf i (by omega)), hf n (by omega)]
  have hK : ∀ c, K (nT W0 P C) c = 0 := fun c => hz _ _ (fun s hs => by
    have : ((nT W0 P C).H.F c).getD s false = true := Pgi.getD_rep _ _ hs
    unfold tk; rw [this]; rfl)
  have hU : ∀ c, U (nT W0 P C) c = 0 := fun c => by
    unfold U
    split
    · exact hz _ _ (fun s hs => rfl)
    · exact hK c
  refine { len := ?_, cst := ?_, le := Nat.zero_le _, by' := fun c _ => by rw [hK c]; exact Nat.zero_le _ }
  · symm; exact hz 24 _ (fun c _ => by show K (nT W0 P C) c * _ = 0; rw [hK c, Nat.zero_mul])
  · symm; exact hz 24 _ (fun c _ => by show U (nT W0 P C) c * _ = 0; rw [hU c, Nat.zero_mul])
set_option maxRecDepth 100000 in
set_option maxHeartbeats 4000000 in
theorem few_good (w : World) (P C : Nat) (q : Int) (A0 A1 A : Option Addr) (n0 c0 n1 c1 cap : Nat) (W0 W1 : List Int) (xs : List HOp) (L : Nat) (h : Co.Cfg P C) (hT : Sh.Tab w) (hA0 : A0 = none → n0 = 0 ∧ c0 = 0) (hl0 : W0.length = n0) (hr0 : Rd w A0 (ints W0)) (hA1 : A1 = none → n1 = 0 ∧ c1 = 0) (hl1 : W1.length = n1) (hr1 : Rd w A1 (ints W1)) (hn0 : n0 ≤ 17592186044416) (hn1 : n1 ≤ 17592186044416)
    (hL : xs.length = L) (hr : Rd w A (hops xs)) (hl : L ≤ maxLen) (hok : ∀ x ∈ xs, x.Ok w) (hm : Hid (∀ x ∈ xs, x.m ≤ 17592186044416)) :
    Calls Tryz.prog 3 #[.agg #[.int .i64 P, .int .i64 C, .slice A0 n0 c0, .slice A1 n1 c1], .slice A L cap, .int .i64 q] w (FewR w) := by
  obtain ⟨w1, hw1⟩ : ∃ w1, w.alloc (.cells #[.int .i64 P, .int .i64 C, .slice A0 n0 c0, .slice A1 n1 c1] 26) = w1 := ⟨_, rfl⟩
  have k1 : Keeps (fun _ => False) w w1 := by rw [← hw1]; exact (Keeps.refl _ _).alloc _
  have b1 : w1.heap[w.heap.size]? = some (.cells #[.int .i64 P, .int .i64 C, .slice A0 n0 c0, .slice A1 n1 c1] 26 (0, 0)) := by rw [← hw1]; exact alloc_new _ _
  obtain ⟨cb, hcb⟩ : ∃ cb, w.heap.size = cb := ⟨_, rfl⟩
  rw [hcb] at b1
  have x0 := cell_of (v := .int .i64 P) b1 0 rfl
  have x1 := cell_of (v := .int .i64 C) b1 1 rfl
  have x2 := cell_of (v := .slice A0 n0 c0) b1 2 rfl
  have x3 := cell_of (v := .slice A1 n1 c1) b1 3 rfl
  have q1 := made_any w1 P C A0 A1 n0 c0 n1 c1 W0 W1 h (hT.old k1) hA0 hl0 (hr0.old k1) hA1 hl1 (hr1.old k1) hn0 hn1
  unfold MadeR at q1
  have HK := Hid.of (And.intro k1 (And.intro hT (And.intro b1 (And.intro hr (And.intro hL (And.intro hl (And.intro hok (And.intro hl0 h))))))))
  have HN := Hid.of (And.intro (show n0 ≤ 17592186044416 by omega) (show n1 ≤ 17592186044416 by omega))
  clear h k1 b1 hT hA0 hr0 hA1 hr1 hn0 hn1 hr hL hok hl hl0 hl1
  go_enter Tryz.func3, Tryz.ntmps3
  go_wp2_with fail
  refine q1.mono ?_
  rintro e w2 ⟨m, X0, X1, r0, r1, rfl, M⟩
  have k2 := M.1.keeps
  have HM := Hid.of M
  have HK2 := Hid.of (HK.out.1.trans k2)
  have q2 := awake_any w2 (HK.out.2.1.old HK2.out)
  have b2 := k2.at HK.out.2.2.1 (fun x => x)
  clear q1 k2 M hw1 hcb x0 x1 x2 x3
  go_wp2_with fail
  refine q2.mono ?_
  rintro e w3 ⟨rfl, k3⟩
  have HK3 := Hid.of (And.intro (HK2.out.trans k3) k3)
  have b3 := k3.at b2 (fun x => x)
  have x0 := cell_of (v := .int .i64 P) b3 0 rfl
  have x1 := cell_of (v := .int .i64 C) b3 1 rfl
  have x2 := cell_of (v := .slice A0 n0 c0) b3 2 rfl
  have x3 := cell_of (v := .slice A1 n1 c1) b3 3 rfl
  have q3 := long_any w3 P C A0 A1 A n0 c0 n1 c1 cap xs L HK.out.2.2.2.2.1 (HK.out.2.2.2.1.old HK3.out.1) HK.out.2.2.2.2.2.1 hm (Hid.of HN.out.1) (Hid.of HN.out.2)
  unfold LongH at q3
  clear q2 k3 b2 b3
  go_wp2_with fail
  refine q3.mono ?_
  rintro e w4 ⟨lb, rfl, k4, hlb⟩
  have HK4 := Hid.of (And.intro (HK3.out.1.trans k4) (HK3.out.2.trans k4))
  clear q3 k4 x0 x1 x2 x3
  cases lb with
  | true =>
    have q4 := awake_any w4 (HK.out.2.1.old HK4.out.1)
    clear hlb
    go_wp2_with fail
    refine q4.mono ?_
    rintro e w5 ⟨rfl, k5⟩
    have HK5 := Hid.of (HK4.out.1.trans k5)
    clear q4 k5
    go_wp2
    go_ret
    exact ⟨rfl, HK5.out⟩
  | false =>
    have HL := Hid.of (hlb rfl)
    have q4 := may_any w4 q
    clear hlb
    cases hq : mayQ q with
    | false =>
      rw [hq] at q4
      have q5 := awake_any w4 (HK.out.2.1.old HK4.out.1)
      clear hq
      go_wp2_with fail
      refine q4.mono ?_
      rintro e w5 ⟨rfl, rfl⟩
      clear q4
      go_wp2_with fail
      refine q5.mono ?_
      rintro e w6 ⟨rfl, k6⟩
      have HK6 := Hid.of (HK4.out.1.trans k6)
      clear q5 k6
      go_wp2
      go_ret
      exact ⟨rfl, HK6.out⟩
    | true =>
      rw [hq] at q4
      have HQ : Hid (1 ≤ q ∧ q ≤ 65536) := Hid.of (by unfold mayQ at hq; simpa using hq)
      clear hq
      have hc4 := HK4.out.2.at HM.out.2.2.2.2 (fun x => x)
      unfold pairC at hc4
      have z2 := cell_of (v := .pointer (some ⟨X0.hb, 0, none⟩)) hc4 2 rfl
      clear hc4
      go_wp2_with fail
      refine q4.mono ?_
      rintro e w5 ⟨rfl, rfl⟩
      clear q4
      go_wp2_with fail
      obtain ⟨hq1, hq2⟩ := HQ.out
      obtain ⟨qn, rfl⟩ : ∃ qn : Nat, q = qn := ⟨q.toNat, by omega⟩
      have HS : Hid (LI w m P C W0 X0 w2 qn xs 0 0 (nT W0 P C) X0 g0 m.v w4) := Hid.of { g := HG.refl HM.out.2.1.j HK4.out.2, hi := hi_new HK.out.2.2.2.2.2.2.2.2, fi := fi_new, W := rfl, T := Nat.le_refl _, K := HK4.out.1 }
      clear z2 HK3
      go_loopw [9, 45] (fun c i wr => ∃ (k cost : Nat) (t : T3) (X : HX) (g : Int → Pg.Pla) (v : Value), k ≤ L ∧ i = .int .i64 k ∧ c = .int .i64 cost ∧ Hid (LI w m P C W0 X0 w2 qn xs k cost t X g v wr)) (fun _ i _ => L - (intOf i).toNat)
      case atStart => exact ⟨0, 0, _, _, _, _, by omega, rfl, rfl, HS⟩
      case round =>
        clear HS
        obtain ⟨k, cost, t, X, g, v, hk, rfl, rfl, HI⟩ := hrel
        by_cases hlt : k < L
        · have rr := HK.out.2.2.2.1.old HI.out.K
          obtain ⟨bb, bo, bs', kk, n, tw, OB, om, oc, OW, hg, rfl, y0, y1, y2, y3⟩ := rhop rr k (by rw [HK.out.2.2.2.2.1]; exact hlt)
          have hkd : decide ((k : Int) < (L : Int)) = true := by simp; omega
          have hx := HK.out.2.2.2.2.2.2.1 _ (List.mem_of_getElem? hg)
          have hn64 := hx.n
          obtain ⟨w5, hw5⟩ : ∃ w5, wr.alloc (.cells #[.int .i64 kk, .int .i64 n, .bool tw, .slice OB om oc] 44) = w5 := ⟨_, rfl⟩
          have k5 : Keeps (fun _ => False) wr w5 := by rw [← hw5]; exact (Keeps.refl _ _).alloc _
          have b5 : w5.heap[wr.heap.size]? = some (.cells #[.int .i64 kk, .int .i64 n, .bool tw, .slice OB om oc] 44 (0, 0)) := by rw [← hw5]; exact alloc_new _ _
          obtain ⟨ob, hob⟩ : ∃ ob, wr.heap.size = ob := ⟨_, rfl⟩
          rw [hob] at b5
          have o0 := cell_of (v := .int .i64 kk) b5 0 rfl
          have o1 := cell_of (v := .int .i64 n) b5 1 rfl
          have H5 := Hid.of (HI.out.old k5)
          have HB5 := Hid.of (And.intro b5 (show k < 250 ∧ n0 ≤ 1500 from by
            have e1 := HL.out.1
            have e2 := HL.out.2.2.1 (fun e => by rw [e] at hg; cases hg)
            have e3 := HK.out.2.2.2.2.1
            exact ⟨by omega, by omega⟩))
          have hk250 := HB5.out.2.1
          clear rr hg hx k5 b5 HI
          by_cases h1 : kk = 1
          · have t1 : (kk == 1) = true := by simpa using h1
            by_cases hkn : Cl.kind n = -1
            · have qc := Rf.charge_bad w5 n hkn
              unfold KI at qc
              clear hkn h1
              go_wp2_with fail
              refine qc.mono ?_
              rintro e w6 ⟨rfl, k6⟩
              have HX6 := Hid.of (H5.out.old k6)
              have H6 : Hid (LI w m P C W0 X0 w2 qn xs (k + 1) cost t X g v w6) := Hid.of { HX6.out with T := by have := (HX6.out).T; omega }
              clear qc k6 hw5 hob y0 y1 y2 y3 o0 o1 H5 HX6 HB5
              go_wp2_with fail
              have qp := He.pages_any w6 X g m.p v m.cp (t).H (t).S (t).M H6.out.g.j
              rw [H6.out.g.hb] at qp
              have qq := Rf.pages_any w6 qn ⟨by omega, by omega⟩
              unfold KI at qq
              have hfw := H6.out.fi.few
              have tp : decide (((pagesN qn : Nat) : Int) < (((t).H.E.length : Nat) : Int)) = false := by simp; omega
              have tp' : decide (pagesN qn < (t).H.E.length) = false := by simp; omega
              generalize pagesN qn = PN at qq tp tp'
              generalize (t).H.E.length = EL at qp tp tp'
              clear hfw
              go_wp2_with fail
              refine qp.mono ?_
              rintro e wy ⟨rfl, rfl⟩
              clear qp
              go_wp2_with fail
              refine qq.mono ?_
              rintro e wz ⟨rfl, kz⟩
              have HZ := Hid.of (H6.out.old kz)
              clear qq kz
              go_wp2_with fail
              go_roundw
              case rel => exact ⟨k + 1, cost, t, X, g, v, by omega, by go_num, rfl, HZ⟩
              case measure => simp [intOf]; omega
            · obtain ⟨c, hc⟩ : ∃ c : Nat, Cl.kind n = (c : Int) := ⟨(Cl.kind n).toNat, by have := kind_range n; omega⟩
              have hc24 : c < 24 := by have := kind_range n; omega
              have qc := Rf.charge_any w5 n c hc24 hc
              unfold KI at qc
              have hur := Pc.un_range hc24
              obtain ⟨u, hu⟩ : ∃ u, Pc.un c = u := ⟨_, rfl⟩
              rw [hu] at qc hur
              have hcq := H5.out.fi.le
              have tu : decide ((0 : Int) < (u : Int)) = true := by simp; omega
              have tu' : decide (0 < u) = true := by simp; omega
              obtain ⟨es, es'⟩ := sum_fits (a := cost) (b := u) (by omega)
              have HU := Hid.of (And.intro hu (And.intro hc (And.intro hc24 hkn)))
              clear hkn h1 hc hu hc24
              by_cases hle : cost + u ≤ qn
              · have tl : decide (((cost + u : Nat) : Int) ≤ (qn : Int)) = true := by simp; omega
                have tl' : decide ((cost : Int) + (u : Int) ≤ (qn : Int)) = true := by simp; omega
                have tl2 : decide (cost + u ≤ qn) = true := by simp; omega
                have HLE := Hid.of hle
                clear hle
                go_wp2_with fail
                refine qc.mono ?_
                rintro e w6 ⟨rfl, k6⟩
                have HX6 := Hid.of (H5.out.old k6)
                have o1' := cell_of (v := .int .i64 n) (k6.at HB5.out.1 (fun x => x)) 1 rfl
                have qm := malloc_all w6 X g m.p v m.cp t n HX6.out.g.j HX6.out.hi (by have := HX6.out.W; have := HK.out.2.2.2.2.2.2.2.1; have := HB5.out.2.2; rw [HX6.out.W]; omega) (by have := HX6.out.T; omega)
                unfold MalR at qm
                rw [HX6.out.g.hb] at qm
                have hfi := FI.malloc HX6.out.hi HX6.out.fi HU.out.2.1 (by rw [HU.out.1]; exact HLE.out)
                have hhi := malloc_hi (n := n) HX6.out.hi
                have hTT := malloc_T (n := n) HX6.out.hi
                have hWW := malloc_W (n := n) HX6.out.hi
                obtain ⟨r, hr⟩ : ∃ r, mallocT t n = r := ⟨_, rfl⟩
                obtain ⟨t', av, ev⟩ := r
                rw [hr] at qm hfi hhi hTT hWW
                dsimp only at qm hfi hhi hTT hWW
                have HR := Hid.of (And.intro hhi (And.intro hTT (And.intro hWW hr)))
                clear qc k6 hhi hTT hWW hr
                rcases hfi with ⟨rfl, hfi⟩ | ⟨rfl, hfi⟩
                · rw [HU.out.1] at hfi
                  have HFI := Hid.of hfi
                  clear hfi
                  go_wp2_with fail
                  refine qm.mono ?_
                  rintro e w7 ⟨rfl, g', v', hG⟩
                  have H7 : Hid (LI w m P C W0 X0 w2 qn xs (k + 1) (cost + u) t' X g' v' w7) := Hid.of (by
                    have c1 := HX6.out.g.c
                    rw [c1] at hG
                    have gg := HX6.out.g.trans hG
                    have hAF : ∀ x, AF X0 g0 [] m.p m.v m.cp (nM P C).C x → w.heap.size ≤ x := by
                      intro x hx
                      have s1 := HK.out.1.size
                      rcases hx with e | e | e
                      · have := (HM.out.2.1.f x e).1; omega
                      · have := (HM.out.1.fa x e).1; omega
                      · have := (HM.out.1.fc x e).1; omega
                    exact { g := gg, hi := HR.out.1, fi := HFI.out, W := by rw [HR.out.2.2.1]; exact HX6.out.W, T := by have := HX6.out.T; have := HR.out.2.1; omega, K := HK2.out.trans' gg.keeps (fun x hx hl => by have := hAF x hx; omega) })
                  clear qm hG hw5 hob y0 y1 y2 y3 o0 o1 o1' H5 HX6 HB5
                  go_wp2_with fail
                  have qp := He.pages_any w7 X g' m.p v' m.cp (t').H (t').S (t').M H7.out.g.j
                  rw [H7.out.g.hb] at qp
                  have qq := Rf.pages_any w7 qn ⟨by omega, by omega⟩
                  unfold KI at qq
                  have hfw := H7.out.fi.few
                  have tp : decide (((pagesN qn : Nat) : Int) < (((t').H.E.length : Nat) : Int)) = false := by simp; omega
                  have tp' : decide (pagesN qn < (t').H.E.length) = false := by simp; omega
                  generalize pagesN qn = PN at qq tp tp'
                  generalize (t').H.E.length = EL at qp tp tp'
                  clear hfw
                  go_wp2_with fail
                  refine qp.mono ?_
                  rintro e wy ⟨rfl, rfl⟩
                  clear qp
                  go_wp2_with fail
                  refine qq.mono ?_
                  rintro e wz ⟨rfl, kz⟩
                  have HZ := Hid.of (H7.out.old kz)
                  clear qq kz
                  go_wp2_with fail
                  go_roundw
                  case rel => exact ⟨k + 1, (cost + u), t', X, g', v', by omega, by go_num, by first | rfl | go_num | (rw [es]), HZ⟩
                  case measure => simp [intOf]; omega
                · have HFI := Hid.of hfi
                  clear hfi
                  go_wp2_with fail
                  refine qm.mono ?_
                  rintro e w7 ⟨rfl, g', v', hG⟩
                  have H7 : Hid (LI w m P C W0 X0 w2 qn xs (k + 1) cost t' X g' v' w7) := Hid.of (by
                    have c1 := HX6.out.g.c
                    rw [c1] at hG
                    have gg := HX6.out.g.trans hG
                    have hAF : ∀ x, AF X0 g0 [] m.p m.v m.cp (nM P C).C x → w.heap.size ≤ x := by
                      intro x hx
                      have s1 := HK.out.1.size
                      rcases hx with e | e | e
                      · have := (HM.out.2.1.f x e).1; omega
                      · have := (HM.out.1.fa x e).1; omega
                      · have := (HM.out.1.fc x e).1; omega
                    exact { g := gg, hi := HR.out.1, fi := HFI.out, W := by rw [HR.out.2.2.1]; exact HX6.out.W, T := by have := HX6.out.T; have := HR.out.2.1; omega, K := HK2.out.trans' gg.keeps (fun x hx hl => by have := hAF x hx; omega) })
                  clear qm hG hw5 hob y0 y1 y2 y3 o0 o1 o1' H5 HX6 HB5
                  go_wp2_with fail
                  have qp := He.pages_any w7 X g' m.p v' m.cp (t').H (t').S (t').M H7.out.g.j
                  rw [H7.out.g.hb] at qp
                  have qq := Rf.pages_any w7 qn ⟨by omega, by omega⟩
                  unfold KI at qq
                  have hfw := H7.out.fi.few
                  have tp : decide (((pagesN qn : Nat) : Int) < (((t').H.E.length : Nat) : Int)) = false := by simp; omega
                  have tp' : decide (pagesN qn < (t').H.E.length) = false := by simp; omega
                  generalize pagesN qn = PN at qq tp tp'
                  generalize (t').H.E.length = EL at qp tp tp'
                  clear hfw
                  go_wp2_with fail
                  refine qp.mono ?_
                  rintro e wy ⟨rfl, rfl⟩
                  clear qp
                  go_wp2_with fail
                  refine qq.mono ?_
                  rintro e wz ⟨rfl, kz⟩
                  have HZ := Hid.of (H7.out.old kz)
                  clear qq kz
                  go_wp2_with fail
                  go_roundw
                  case rel => exact ⟨k + 1, cost, t', X, g', v', by omega, by go_num, rfl, HZ⟩
                  case measure => simp [intOf]; omega
              · have tl : decide (((cost + u : Nat) : Int) ≤ (qn : Int)) = false := by simp; omega
                have tl' : decide ((cost : Int) + (u : Int) ≤ (qn : Int)) = false := by simp; omega
                clear hle
                go_wp2_with fail
                refine qc.mono ?_
                rintro e w6 ⟨rfl, k6⟩
                have HX6 := Hid.of (H5.out.old k6)
                have H6 : Hid (LI w m P C W0 X0 w2 qn xs (k + 1) cost t X g v w6) := Hid.of { HX6.out with T := by have := (HX6.out).T; omega }
                clear qc k6 hw5 hob y0 y1 y2 y3 o0 o1 H5 HX6 HB5
                go_wp2_with fail
                have qp := He.pages_any w6 X g m.p v m.cp (t).H (t).S (t).M H6.out.g.j
                rw [H6.out.g.hb] at qp
                have qq := Rf.pages_any w6 qn ⟨by omega, by omega⟩
                unfold KI at qq
                have hfw := H6.out.fi.few
                have tp : decide (((pagesN qn : Nat) : Int) < (((t).H.E.length : Nat) : Int)) = false := by simp; omega
                have tp' : decide (pagesN qn < (t).H.E.length) = false := by simp; omega
                generalize pagesN qn = PN at qq tp tp'
                generalize (t).H.E.length = EL at qp tp tp'
                clear hfw
                go_wp2_with fail
                refine qp.mono ?_
                rintro e wy ⟨rfl, rfl⟩
                clear qp
                go_wp2_with fail
                refine qq.mono ?_
                rintro e wz ⟨rfl, kz⟩
                have HZ := Hid.of (H6.out.old kz)
                clear qq kz
                go_wp2_with fail
                go_roundw
                case rel => exact ⟨k + 1, cost, t, X, g, v, by omega, by go_num, rfl, HZ⟩
                case measure => simp [intOf]; omega
          · have t1 : (kk == 1) = false := by simpa using h1
            have qb := blocks_any w5 X g m.p v m.cp t.H t.S t.M H5.out.g.j
            unfold BlkR at qb
            rw [H5.out.g.hb] at qb
            have hbl : (blocksL t.H).length ≤ 24 * 8192 := bl1_len t.H 24 (Nat.le_refl _)
            have hbrange := blocks_range t.H
            obtain ⟨bl, hbe⟩ : ∃ bl, blocksL t.H = bl := ⟨_, rfl⟩
            rw [hbe] at qb hbl hbrange
            clear hbe h1
            go_wp2_with fail
            refine qb.mono ?_
            rintro e w6 ⟨bv, rfl, ob6, k6⟩
            obtain ⟨BA, bcap, rfl, -, -, hbr⟩ := ob6.rd
            have HX6 := Hid.of (H5.out.old k6)
            have o1' := cell_of (v := .int .i64 n) (k6.at HB5.out.1 (fun x => x)) 1 rfl
            obtain ⟨nb, hnb⟩ : ∃ nb, bl.length = nb := ⟨_, rfl⟩
            rw [hnb] at hbl
            have HBL := Hid.of (And.intro hbr hnb)
            clear qb ob6 k6 hbr
            rw [hnb]
            clear hnb
            by_cases hz : nb = 0
            · have tz : decide ((0 : Int) < (nb : Int)) = false := by simp; omega
              have tz' : decide (0 < nb) = false := by simp; omega
              have H6 : Hid (LI w m P C W0 X0 w2 qn xs (k + 1) cost t X g v w6) := Hid.of { HX6.out with T := by have := (HX6.out).T; omega }
              clear hw5 hob y0 y1 y2 y3 o0 o1 o1' H5 HX6 HB5
              go_wp2_with fail
              have qp := He.pages_any w6 X g m.p v m.cp (t).H (t).S (t).M H6.out.g.j
              rw [H6.out.g.hb] at qp
              have qq := Rf.pages_any w6 qn ⟨by omega, by omega⟩
              unfold KI at qq
              have hfw := H6.out.fi.few
              have tp : decide (((pagesN qn : Nat) : Int) < (((t).H.E.length : Nat) : Int)) = false := by simp; omega
              have tp' : decide (pagesN qn < (t).H.E.length) = false := by simp; omega
              generalize pagesN qn = PN at qq tp tp'
              generalize (t).H.E.length = EL at qp tp tp'
              clear hfw
              go_wp2_with fail
              refine qp.mono ?_
              rintro e wy ⟨rfl, rfl⟩
              clear qp
              go_wp2_with fail
              refine qq.mono ?_
              rintro e wz ⟨rfl, kz⟩
              have HZ := Hid.of (H6.out.old kz)
              clear qq kz
              go_wp2_with fail
              go_roundw
              case rel => exact ⟨k + 1, cost, t, X, g, v, by omega, by go_num, rfl, HZ⟩
              case measure => simp [intOf]; omega
            · have tz : decide ((0 : Int) < (nb : Int)) = true := by simp; omega
              have tz' : decide (0 < nb) = true := by simp; omega
              have HBR := Hid.of hbrange
              clear hw5 hob y0 y1 y2 y3 o0 o1 H5 hbrange
              obtain ⟨ix, hix, eix⟩ := idx_fit n (show 0 < nb by omega) hbl
              obtain ⟨zb, zo, zs, rfl, zc⟩ := rd_int HBL.out.1 ix (by rw [HBL.out.2]; exact hix)
              obtain ⟨av, hav⟩ : ∃ av, bl.getD ix 0 = av := ⟨_, rfl⟩
              rw [hav] at zc
              have har : 0 ≤ av ∧ av ≤ 10000000 := by
                rw [← hav]
                have hlt : ix < bl.length := by rw [HBL.out.2]; exact hix
                rw [List.getD_eq_getElem?_getD, List.getElem?_eq_getElem hlt, Option.getD_some]
                exact HBR.out _ (List.getElem_mem hlt)
              have hi0 : (0 : Int) ≤ (ix : Int) := by omega
              have hi1 : (ix : Int) < (nb : Int) := by omega
              have qu := He.usable_any w6 X g m.p v m.cp t.H t.S t.M av (by omega) HX6.out.g.j
              rw [HX6.out.g.hb] at qu
              have hfr := FI.free (a := av) HX6.out.hi HX6.out.fi
              have hhi := free_hi (a := av) HX6.out.hi
              have hTT := free_T (a := av) HX6.out.hi
              have hWW := free_W (a := av) HX6.out.hi
              have qf := fun wx (kx : Keeps (fun _ => False) w6 wx) => free_all wx X g m.p v m.cp t av (by omega) (HX6.out.g.j.old kx) HX6.out.hi (by have := HX6.out.T; omega)
              unfold FreR at qf
              rw [HX6.out.g.hb] at qf
              obtain ⟨r, hr⟩ : ∃ r, freeT t av = r := ⟨_, rfl⟩
              obtain ⟨t', ev⟩ := r
              rw [hr] at qf hfr hhi hTT hWW
              dsimp only at qf hfr hhi hTT hWW
              rcases hur : usableR t.H av with ⟨uv, ue⟩
              rw [hur] at qu hfr
              dsimp only at qu hfr
              have HR := Hid.of (And.intro hhi (And.intro hTT (And.intro hWW hr)))
              clear hhi hTT hWW hr hur hav har hix
              go_wp2_with fail
              refine qu.mono ?_
              rintro e w7 ⟨rfl, k7⟩
              have HX7 := Hid.of (HX6.out.old k7)
              have qf' := qf w7 k7
              clear qu qf k7
              rcases hfr with ⟨rfl, rfl⟩ | ⟨rfl, c, cost', rfl, hc24, hcost, hfi⟩
              · go_wp2_with fail
                refine qf'.mono ?_
                rintro e w8 ⟨rfl, v', hG⟩
                have H7 : Hid (LI w m P C W0 X0 w2 qn xs (k + 1) cost t' X g v' w8) := Hid.of (by
                  have c1 := HX7.out.g.c
                  rw [c1] at hG
                  have gg := HX7.out.g.trans hG
                  have hAF : ∀ x, AF X0 g0 [] m.p m.v m.cp (nM P C).C x → w.heap.size ≤ x := by
                    intro x hx
                    have s1 := HK.out.1.size
                    rcases hx with e | e | e
                    · have := (HM.out.2.1.f x e).1; omega
                    · have := (HM.out.1.fa x e).1; omega
                    · have := (HM.out.1.fc x e).1; omega
                  exact { g := gg, hi := HX7.out.hi, fi := HX7.out.fi, W := HX7.out.W, T := by have := HX7.out.T; omega, K := HK2.out.trans' gg.keeps (fun x hx hl => by have := hAF x hx; omega) })
                clear qf' hG zc o1' HX6 HX7 HB5 HBL
                go_wp2_with fail
                have qp := He.pages_any w8 X g m.p v' m.cp (t').H (t').S (t').M H7.out.g.j
                rw [H7.out.g.hb] at qp
                have qq := Rf.pages_any w8 qn ⟨by omega, by omega⟩
                unfold KI at qq
                have hfw := H7.out.fi.few
                have tp : decide (((pagesN qn : Nat) : Int) < (((t').H.E.length : Nat) : Int)) = false := by simp; omega
                have tp' : decide (pagesN qn < (t').H.E.length) = false := by simp; omega
                generalize pagesN qn = PN at qq tp tp'
                generalize (t').H.E.length = EL at qp tp tp'
                clear hfw
                go_wp2_with fail
                refine qp.mono ?_
                rintro e wy ⟨rfl, rfl⟩
                clear qp
                go_wp2_with fail
                refine qq.mono ?_
                rintro e wz ⟨rfl, kz⟩
                have HZ := Hid.of (H7.out.old kz)
                clear qq kz
                go_wp2_with fail
                go_roundw
                case rel => exact ⟨k + 1, cost, t', X, g, v', by omega, by go_num, rfl, HZ⟩
                case measure => simp [intOf]; omega
              · have HFI := Hid.of hfi
                obtain ⟨u, hu⟩ : ∃ u, Pc.un c = u := ⟨_, rfl⟩
                rw [hu] at hcost
                rw [hu]
                have hle := HX7.out.fi.le
                have es : wrap64 ((cost : Int) - (u : Int)) = (cost' : Int) := sub_fits hcost (by omega)
                have HES := Hid.of es
                clear hfi hu hcost hle
                go_wp2_with fail
                refine qf'.mono ?_
                rintro e w8 ⟨rfl, v', hG⟩
                have H7 : Hid (LI w m P C W0 X0 w2 qn xs (k + 1) cost' t' X g v' w8) := Hid.of (by
                  have c1 := HX7.out.g.c
                  rw [c1] at hG
                  have gg := HX7.out.g.trans hG
                  have hAF : ∀ x, AF X0 g0 [] m.p m.v m.cp (nM P C).C x → w.heap.size ≤ x := by
                    intro x hx
                    have s1 := HK.out.1.size
                    rcases hx with e | e | e
                    · have := (HM.out.2.1.f x e).1; omega
                    · have := (HM.out.1.fa x e).1; omega
                    · have := (HM.out.1.fc x e).1; omega
                  exact { g := gg, hi := HR.out.1, fi := HFI.out, W := by rw [HR.out.2.2.1]; exact HX7.out.W, T := by have := HX7.out.T; have := HR.out.2.1; omega, K := HK2.out.trans' gg.keeps (fun x hx hl => by have := hAF x hx; omega) })
                clear qf' hG zc o1' HX6 HX7 HB5 HBL
                go_wp2_with fail
                have qp := He.pages_any w8 X g m.p v' m.cp (t').H (t').S (t').M H7.out.g.j
                rw [H7.out.g.hb] at qp
                have qq := Rf.pages_any w8 qn ⟨by omega, by omega⟩
                unfold KI at qq
                have hfw := H7.out.fi.few
                have tp : decide (((pagesN qn : Nat) : Int) < (((t').H.E.length : Nat) : Int)) = false := by simp; omega
                have tp' : decide (pagesN qn < (t').H.E.length) = false := by simp; omega
                generalize pagesN qn = PN at qq tp tp'
                generalize (t').H.E.length = EL at qp tp tp'
                clear hfw
                go_wp2_with fail
                refine qp.mono ?_
                rintro e wy ⟨rfl, rfl⟩
                clear qp
                go_wp2_with fail
                refine qq.mono ?_
                rintro e wz ⟨rfl, kz⟩
                have HZ := Hid.of (H7.out.old kz)
                clear qq kz
                go_wp2_with fail
                go_roundw
                case rel => exact ⟨k + 1, cost', t', X, g, v', by omega, by go_num, by first | rfl | go_num | (rw [HES.out]), HZ⟩
                case measure => simp [intOf]; omega
        · obtain rfl : k = L := by omega
          have hkd : decide ((k : Int) < (k : Int)) = false := by simp
          go_wp2
          go_ret
          exact ⟨rfl, HI.out.K⟩
end Hm
end Go.Proofs.YtnheibcjcgacpaaGreatDoor
