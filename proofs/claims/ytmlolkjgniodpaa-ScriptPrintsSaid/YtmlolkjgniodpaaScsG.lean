/- The document's script (garthref22): Print, any steps. -/
import Derived.Test.YtmlolkjgniodpaaScsB
import Derived.Test.YtmlolkjgniodpaaScsC
import Derived.Test.YtmlolkjgniodpaaScrI
set_option linter.unusedVariables false
set_option linter.unusedSimpArgs false
namespace Go.Proofs.Ytmlolkjgniodpaa
open Go.RowKit Go.ChangeMaps
attribute [-go_sem] run_index_string run_neq_struct run_eql_struct run_equalIn_agg
section
variable {P : Program}
/-- 'xs = append(xs, ys...)', ys a row somewhere. -/
theorem wpList_appL {t e size bytes : Nat} (T : SlT P t e size bytes) (w : World) {ops : Array Oper} {rest : List Oper} {o : Oper} {a : Act} {Q : Exit → Act → World → Prop} (hgd : o.guard = none) (s x : Operand)
    (ho : o.op = .call { callee := .builtin .append, args := #[s, x], argTypes := #[t, t] }) (v : Value) (n : Nat) (xs : List Value) (hs : a.eval s = v) (hown : Own w e size v n xs) (ad : Addr) (m c : Nat)
    (news : List Value) (hx : a.eval x = .slice (some ad) m c) (hl : news.length = m * size) (hr : Rd w (some ad) news) (h1 : ∀ u ∈ news, u.oneCell' = true) (h63 : n + m ≤ maxLen) (hbytes : (n + m) * bytes ≤ 140737488355328)
    (h : ∀ v' w', Own w' e size v' (n + m) (xs ++ news) → Keeps (fun b => v.ownBlock = some b) w w' → (v'.ownBlock = v.ownBlock ∨ v'.ownBlock = some w.heap.size) → wpList P ops Q rest (a.put o.dst v') w') :
    wpList P ops Q (o :: rest) a w := by
  obtain ⟨i, z, hi, hz, h2, h3, h4⟩ := T.info
  refine wpList_append_own_at w hgd s x t ho 0 e i z size bytes T.ht hi hz h2 h3 h4 T.pos v n xs hs hown ad m c news hx hl ?_ h1 h63 hbytes (Nat.zero_le _) ?_
  · intro j u hj
    obtain ⟨ad', e, hc⟩ := hr j u hj
    cases e; exact hc
  · intro v' w' hown' hg hnil hat
    exact h v' w' hown' ⟨hg.os, hg.tape, hg.output, hg.size, fun b hb hf => hg.block b hb (fun e => hf e.symm)⟩ hat
end
namespace Scr
theorem wr_len (x : Stp) (p : Part) : (wr x p).length ≤ 256 := by
  cases p with
  | n => simp [wr, le16]
  | m => simp [wr, le16]
  | h => have := hb_len x; simp only [wr]; omega
  | d => simp only [wr, List.length_cons, List.length_take]; omega
theorem rb_len (x : Stp) : 2 ≤ (rb x).length ∧ (rb x).length ≤ 800 := by
  have h : ∀ R : List Part, (R.flatMap (wr x)).length ≤ R.length * 256 := by
    intro R
    induction R with
    | nil => simp
    | cons p R ih => have := wr_len x p; simp only [List.flatMap_cons, List.length_append, List.length_cons]; omega
  have h1 := h (row x.kind)
  have h2 := row_len x.kind
  unfold rb
  simp only [List.length_append, List.length_cons, List.length_nil]
  omega
theorem rb_ok {x : Stp} (h : ok x = true) : rb x = pb x := (ok_parts h).2.2.2.2.2.1
set_option maxRecDepth 100000 in
set_option maxHeartbeats 3000000 in
theorem rprint_any (w : World) (A : Option Addr) (cap : Nat) (L : List Stp) (q : Nat) (hq : L.length = q) (hr : Rd w A (stps L)) (hw : ∀ x ∈ L, Fit x) (hb : q ≤ 1000000) :
    Calls Try.prog 52 #[.slice A q cap] w fun e w' => e = .returned (.tuple #[.string (bs (prt L).1), .int .i64 (prt L).2]) ∧ Keeps (fun _ => False) w w' := by
  by_cases h4 : 4000 < L.length
  · have e : prt L = ([], 12) := by unfold prt; rw [if_pos h4]
    rw [e]
    have h4' : decide ((4000 : Int) < (q : Int)) = true := by simp; omega
    clear hr hw
    go_enter Try.func52, Try.ntmps52
    go_wp2
    go_ret2
    exact ⟨rfl, Keeps.refl _ _⟩
  · have e : prt L = if L.all ok then (if 16384 < (L.flatMap pb).length then ([], 14) else (L.flatMap pb, 0)) else ([], 12) := by unfold prt; rw [if_neg h4]
    have h4' : decide ((4000 : Int) < (q : Int)) = false := by simp; omega
    have hq4 : q ≤ 4000 := by omega
    have HE := Hid.of e
    generalize hR : prt L = R at *
    clear e hR h4
    obtain ⟨w1, hw1⟩ : ∃ w1, w.alloc (.cells #[] 5) = w1 := ⟨_, rfl⟩
    have o1 : OutR 5 1 w.heap.size w1 (.slice (some ⟨w.heap.size, 0, none⟩) 0 0) 0 [] := by rw [← hw1]; exact ⟨own_empty _ _ _, fun g hg => by cases hg; exact Nat.le_refl _⟩
    have k1 : Keeps (fun _ => False) w w1 := by rw [← hw1]; exact (Keeps.refl _ _).alloc _
    go_enter Try.func52, Try.ntmps52
    go_wp2
    clear hw1 h4'
    go_loopw [4, 5] (fun v i wr => ∃ (j : Nat) (out : Bs), j ≤ q ∧ i = .int .i64 j ∧ OutR 5 1 w.heap.size wr v out.length (u8s out) ∧ Keeps (fun _ => False) w wr ∧ Hid (out = (L.take j).flatMap pb) ∧ Hid (∀ x ∈ L.take j, ok x = true)) (fun _ i _ => q - (intOf i).toNat)
    case atStart => exact ⟨0, [], by omega, rfl, o1, k1, Hid.of rfl, Hid.of (by simp)⟩
    case round =>
      clear o1 k1
      obtain ⟨j, out, hj, rfl, O, K, HO, HA⟩ := hrel
      have ho : out.length ≤ 1200000 := by
        have := out_len _ HA.out
        rw [HO.out]
        have h2 : (L.take j).length ≤ 4000 := by rw [List.length_take]; omega
        omega
      obtain ⟨A2, cp, rfl, -, hA2, r2⟩ := O.rd
      by_cases hlt : j < q
      · have r0 := hr.old K
        obtain ⟨b1, o1, s1, x1, x2, x3, x4, x5, x6, x7, hg, rfl, d0, d1, d2, d3, d4, d5, d6⟩ := rstp r0 j (by omega)
        have HX := Hid.of hg
        have HT : Hid (L.take (j + 1) = L.take j ++ [⟨x1, x2, x3, x4, x5, x6, x7⟩]) := Hid.of (by rw [List.take_add_one, hg]; rfl)
        obtain ⟨f1, f2, f3, f4, f5⟩ := hw _ (List.mem_of_getElem? hg)
        simp only [] at f1 f2 f3 f4 f5
        have hlti : (j : Int) < (q : Int) := by omega
        have qs := fun w => small_any w ⟨x1, x2, x3, x4, x5, x6, x7⟩
        dsimp only at qs
        have HT2 := Hid.of (ref_test ⟨x1, x2, x3, x4, x5, x6, x7⟩ ⟨f2, f3⟩)
        have HNO : Hid (ok ⟨x1, x2, x3, x4, x5, x6, x7⟩ = false → R = ([], 12)) := Hid.of (fun hok => by
            rw [HE.out, if_neg]
            intro hall
            rw [List.all_eq_true] at hall
            have := hall _ (List.mem_of_getElem? HX.out)
            rw [hok] at this; cases this)
        have HRR := Hid.of r0
        have HOO := Hid.of O
        have HK := Hid.of K
        have HQQ := Hid.of (And.intro f2 (And.intro f3 (And.intro f1 hw)))
        clear hg r0 hr f4 f5 O K r2 hw f1 f2 f3
        cases hsm : small ⟨x1, x2, x3, x4, x5, x6, x7⟩ with
        | false =>
          rw [hsm] at qs
          have HRE : Hid (R = ([], 12)) := Hid.of (HNO.out (by cases hok : ok ⟨x1, x2, x3, x4, x5, x6, x7⟩ with | false => rfl | true => have := (HT2.out.2 hok).1; rw [hsm] at this; cases this))
          clear hsm
          go_wp2_with fail
          refine (qs _).mono ?_
          rintro e w3 ⟨rfl, k3⟩
          have HF := Hid.of (HK.out.trans k3)
          clear k3 qs
          go_wp2
          go_ret2
          exact ⟨by rw [HRE.out]; rfl, HF.out⟩
        | true =>
          rw [hsm] at qs
          have HSM := Hid.of hsm
          clear hsm
          have hk3 : x1 < 0 ∨ (0 ≤ x1 ∧ 15 < x1) ∨ (0 ≤ x1 ∧ x1 ≤ 15) := by omega
          go_wp2_with fail
          refine (qs wr).mono ?_
          rintro e w3 ⟨rfl, k3⟩
          have r3 := HRR.out.old k3
          obtain ⟨b1', o1', s1', y1, y2, y3, y4, y5, y6, y7, hg, e1, d0', d1', d2', d3', d4', d5', d6'⟩ := rstp r3 j (by omega)
          rw [HX.out] at hg
          cases hg
          cases e1
          have HRR3 := Hid.of r3
          have HF := Hid.of (HK.out.trans k3)
          have HO3 := Hid.of (HOO.out.old k3)
          clear k3 qs r3 d0 d1 d2 d3 d4 d5 d6 HK HOO
          rcases hk3 with hk | ⟨hk, hk'⟩ | ⟨hk, hk'⟩
          · have c1 : decide (x1 < 0) = true := by simp; omega
            have HRE : Hid (R = ([], 12)) := Hid.of (HNO.out (by cases hok : ok ⟨x1, x2, x3, x4, x5, x6, x7⟩ with | false => rfl | true => have := (HT2.out.2 hok).2.1; omega))
            go_wp2
            go_ret2
            exact ⟨by rw [HRE.out]; rfl, HF.out⟩
          · have c1 : decide (x1 < 0) = false := by simp; omega
            have c2 : decide (15 < x1) = true := by simp; omega
            have HRE : Hid (R = ([], 12)) := Hid.of (HNO.out (by cases hok : ok ⟨x1, x2, x3, x4, x5, x6, x7⟩ with | false => rfl | true => have := (HT2.out.2 hok).2.2.1; omega))
            go_wp2
            go_ret2
            exact ⟨by rw [HRE.out]; rfl, HF.out⟩
          · have c1 : decide (x1 < 0) = false := by simp; omega
            have c2 : decide (15 < x1) = false := by simp; omega
            have qb := fun w => rbytes_any w ⟨x1, x2, x3, x4, x5, x6, x7⟩ hk hk' HSM.out ⟨HQQ.out.1, HQQ.out.2.1⟩ HQQ.out.2.2.1
            dsimp only at qb
            have HB := Hid.of (rb_len ⟨x1, x2, x3, x4, x5, x6, x7⟩)
            go_wp2_with fail
            refine (qb w3).mono ?_
            rintro e w4 ⟨v4, rfl, o4, k4⟩
            obtain ⟨A4, c4, rfl, -, hA4, r4⟩ := o4.rd
            obtain ⟨bts, hbt⟩ : ∃ l, rb ⟨x1, x2, x3, x4, x5, x6, x7⟩ = l := ⟨_, rfl⟩
            have HBT := Hid.of hbt
            rw [hbt] at o4 r4 HB
            rw [hbt]
            have hcv := string_of_bytes w4 A4 bts.length c4 bts rfl r4 (fun e => by
              obtain ⟨A', cap', hv', _, hn', _⟩ := o4.1.shape
              injection hv' with e1 e2 e3
              exact hn' (by rw [← e1]; exact e))
            have HF4 := Hid.of (HF.out.trans k4)
            have HO4 := Hid.of (HO3.out.old k4)
            have HR4 := Hid.of (HRR3.out.old k4)
            have HRb := Hid.of r4
            have HK34 := Hid.of k4
            clear o4 r4 k4 hbt qb HF HO3 HRR3 d0' d1' d2' d3' d4' d5' d6' hA4
            cases ho1 : one bts with
            | none =>
              have HRE : Hid (R = ([], 12)) := Hid.of (HNO.out (by cases hok : ok ⟨x1, x2, x3, x4, x5, x6, x7⟩ with | false => rfl | true => have := (HT2.out.2 hok).2.2.2; rw [HBT.out, ho1] at this; cases this))
              have q1 := one_no w4 bts (by have := HB.out; omega) ho1
              clear ho1
              go_wp2_with fail
              refine q1.mono ?_
              rintro e w5 ⟨rfl, k5⟩
              have HF := Hid.of (HF4.out.trans k5)
              clear k5 q1 hcv
              go_wp2
              go_quiet (fail)
              go_wp2
              go_ret2
              exact ⟨by rw [HRE.out]; rfl, (HF.out.alloc _).drewN _⟩
            | some p =>
              obtain ⟨⟨z1, z2, z3, z4, z5, z6, z7⟩, r⟩ := p
              have q1 := one_yes w4 bts (by have := HB.out; omega) _ r ho1
              dsimp only at q1
              go_wp2_with fail
              refine q1.mono ?_
              rintro e w5 ⟨rfl, k5⟩
              have HO1 := Hid.of ho1
              have HO5 := Hid.of (HO4.out.old k5)
              have HRb5 := Hid.of (HRb.out.old k5)
              have k5' := (Keeps.refl (fun _ => False) w5).alloc (.cells #[.int .i64 z1, .int .i64 z2, .int .i64 z3, .int .i64 z4, .int .u64 z5, .string (bs z6), .int .i64 z7] 108)
              have HF5 := HF4.out.trans k5
              obtain ⟨w6, hw6⟩ : ∃ w6, w5.alloc (.cells #[.int .i64 z1, .int .i64 z2, .int .i64 z3, .int .i64 z4, .int .u64 z5, .string (bs z6), .int .i64 z7] 108) = w6 := ⟨_, rfl⟩
              have xx : XAt w6 w5.heap.size ⟨z1, z2, z3, z4, z5, z6, z7⟩ := by rw [← hw6]; exact alloc_new _ _
              rw [hw6] at k5'
              have R6 := (HR4.out.old k5).old k5'
              obtain ⟨b1', o1', s1', y1, y2, y3, y4, y5, y6, y7, hg, e1, d0, d1, d2, d3, d4, d5, d6⟩ := rstp R6 j (by omega)
              rw [HX.out] at hg
              cases hg
              cases e1
              obtain ⟨i0, i1, i2, i3, i4, i5, i6⟩ := xx.all
              dsimp only at i0 i1 i2 i3 i4 i5 i6
              have HF := Hid.of (HF5.trans k5')
              have HO6 := Hid.of (HO5.out.old k5')
              have HRb6 := Hid.of (HRb5.out.old k5')
              have nq := fun w => neq_stp w z1 z2 z3 z4 z5 z7 x1 x2 x3 x4 x5 x7 z6 x6
              clear ho1 k5 q1 hcv k5' HF5 xx R6 HO5 HRb5 HO4 HRb HF4 HR4
              cases r with
              | cons c r =>
                have HRE : Hid (R = ([], 12)) := Hid.of (HNO.out (by cases hok : ok ⟨x1, x2, x3, x4, x5, x6, x7⟩ with | false => rfl | true => have := (HT2.out.2 hok).2.2.2; rw [HBT.out, HO1.out] at this; cases this))
                have hs1 : ((c :: r : Bs) != (⟨#[]⟩ : ByteArray).toList) = true := by
                  show ((c :: r : Bs) != (bs []).toList) = true
                  rw [bs_toList]; rfl
                go_wp2
                go_quiet (fail)
                go_wp2
                go_ret2
                exact ⟨by rw [HRE.out]; rfl, HF.out.drewN _⟩
              | nil =>
                have hs1 : (([] : Bs) != (⟨#[]⟩ : ByteArray).toList) = false := by
                  show (([] : Bs) != (bs []).toList) = false
                  rw [bs_toList]; rfl
                by_cases hzx : (⟨z1, z2, z3, z4, z5, z6, z7⟩ : Stp) = ⟨x1, x2, x3, x4, x5, x6, x7⟩
                · have hxx : stEq z1 z2 z3 z4 z5 z6 z7 x1 x2 x3 x4 x5 x6 x7 = true := by unfold stEq; simpa using hzx
                  have HOK : Hid (ok ⟨x1, x2, x3, x4, x5, x6, x7⟩ = true) := Hid.of (HT2.out.1 ⟨HSM.out, hk, hk', by rw [HBT.out, HO1.out, hzx]⟩)
                  have HPB : Hid (bts = pb ⟨x1, x2, x3, x4, x5, x6, x7⟩) := Hid.of (by rw [← HBT.out]; exact rb_ok HOK.out)
                  have HAD : Hid (∃ ad, A4 = some ad) := Hid.of (by
                    have h2 := HB.out.1
                    obtain ⟨ad, e, _⟩ := HRb6.out 0 (.int .u8 (((bts.getD 0 0).toNat : Nat) : Int)) (by
                      match bts, h2 with
                      | a :: l, _ => rfl)
                    exact ⟨ad, e⟩)
                  obtain ⟨ad, rfl⟩ := HAD.out
                  have hbl : bts.length ≤ 800 := HB.out.2
                  clear hzx
                  rw [hxx] at nq
                  clear hxx
                  go_wp2
                  go_quiet (fail)
                  go_wp2_with (at_builtin; refine wpList_appL slBytes _ rfl _ _ rfl (.slice A2 out.length cp) out.length (u8s out) rfl (HO6.out.old ((Keeps.refl _ _).drewN _)).1 ad bts.length c4 (u8s bts) rfl (by rw [u8s_length, Nat.mul_one]) (HRb6.out.old ((Keeps.refl _ _).drewN _)) (one_u8s _) (by unfold maxLen; omega) (by omega) ?_; intro v8 w8 o8 k8 at8; have HO8 := Hid.of o8; have HK8 := Hid.of k8; have HA8 := Hid.of at8; clear o8 k8 at8)
                  go_roundw
                  case rel =>
                    refine ⟨j + 1, out ++ bts, by omega, by go_num, ⟨by rw [List.length_append, u8s_append]; exact HO8.out, fun g hg => ?_⟩, (HF.out.drewN _).trans' HK8.out (fun x hx hl => by have := HO6.out.2 x hx; omega), Hid.of ?_, Hid.of ?_⟩
                    · rcases HA8.out with e | e
                      · exact HO6.out.2 g (by rw [← e]; exact hg)
                      · rw [e] at hg
                        cases hg
                        exact HF.out.size
                    · rw [HT.out, List.flatMap_append, HO.out, HPB.out]; simp
                    · intro x hx
                      rw [HT.out, List.mem_append] at hx
                      rcases hx with hx | hx
                      · exact HA.out x hx
                      · rw [List.mem_singleton] at hx; rw [hx]; exact HOK.out
                  case measure => simp [intOf]; omega
                · have hxx : stEq z1 z2 z3 z4 z5 z6 z7 x1 x2 x3 x4 x5 x6 x7 = false := by unfold stEq; simpa using hzx
                  have HRE : Hid (R = ([], 12)) := Hid.of (HNO.out (by
                    cases hok : ok ⟨x1, x2, x3, x4, x5, x6, x7⟩ with
                    | false => rfl
                    | true =>
                      have := (HT2.out.2 hok).2.2.2
                      rw [HBT.out, HO1.out] at this
                      injection this with this
                      injection this with this _
                      exact absurd this hzx))
                  clear hzx
                  rw [hxx] at nq
                  clear hxx
                  go_wp2
                  go_quiet (fail)
                  go_wp2
                  go_ret2
                  exact ⟨by rw [HRE.out]; rfl, HF.out.drewN _⟩
      · obtain rfl : j = q := by omega
        have hn1 : ¬ ((j : Int) < (j : Int)) := by omega
        have hall : L.all ok = true := by
          rw [List.all_eq_true]
          intro x hx
          exact HA.out x (by rw [← hq, List.take_length]; exact hx)
        have hout : out = L.flatMap pb := by rw [HO.out, ← hq, List.take_length]
        have HR : Hid (R = if 16384 < out.length then ([], 14) else (out, 0)) := Hid.of (by rw [HE.out, if_pos hall, ← hout])
        have hcv := string_of_bytes wr A2 out.length cp out rfl r2 (fun e => by
          obtain ⟨A', cap', hv', _, hn', _⟩ := O.1.shape
          injection hv' with e1 e2 e3
          exact hn' (by rw [← e1]; exact e))
        have HK := Hid.of K
        clear K hr hall hout hw O r2 hA2
        by_cases hbig : 16384 < out.length
        · have hbi : decide ((16384 : Int) < (out.length : Int)) = true := by simp; omega
          have HRE : Hid (R = ([], 14)) := Hid.of (by rw [HR.out, if_pos hbig])
          clear hbig
          go_wp2
          go_ret2
          exact ⟨by rw [HRE.out]; rfl, HK.out⟩
        · have hbi : decide ((16384 : Int) < (out.length : Int)) = false := by simp; omega
          have HRE : Hid (R = (out, 0)) := Hid.of (by rw [HR.out, if_neg hbig])
          clear hbig
          go_wp2
          go_ret2
          exact ⟨by rw [HRE.out]; rfl, HK.out⟩
end Scr
end Go.Proofs.Ytmlolkjgniodpaa
