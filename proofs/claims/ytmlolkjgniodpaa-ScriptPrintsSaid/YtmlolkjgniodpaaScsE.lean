/- ScriptBack: the plain law, and the walk. -/
import Derived.Test.YtmlolkjgniodpaaScsD
import Derived.Test.YtmlolkjgniodpaaScrO
import Derived.Test.YtmlolkjgniodpaaScrY
import Derived.Test.YtmlolkjgniodpaaAppN
set_option linter.unusedVariables false
set_option linter.unusedSimpArgs false
namespace Go.Proofs.Ytmlolkjgniodpaa
open Go.RowKit Go.ChangeMaps
attribute [-go_sem] run_index_string run_neq_struct run_eql_struct run_equalIn_agg run_string_add_if
namespace Scr
/-- The numbers of a step are of their kinds. -/
def Num (x : Stp) : Prop := 0 ≤ x.handle ∧ x.handle < 18446744073709551616 ∧ (-9223372036854775808 ≤ x.n ∧ x.n ≤ 9223372036854775807) ∧ (-9223372036854775808 ≤ x.m ∧ x.m ≤ 9223372036854775807)
theorem fit_of {L : List Stp} (h : ∀ x ∈ L, Num x) (hg : gsum L ≤ 32768) : ∀ x ∈ L, Fit x := by
  intro x hx
  have := gsum_mem hx
  unfold gw at this
  exact ⟨by omega, h x hx⟩
theorem prt_cases (L : List Stp) : ((prt L).2 ≠ 0 ∧ (prt L).1 = []) ∨ ((prt L).2 = 0 ∧ (prt L).1 = L.flatMap pb ∧ L.length ≤ 4000 ∧ (L.flatMap pb).length ≤ 16384 ∧ ∀ x ∈ L, ok x = true) := by
  unfold prt
  split
  · exact .inl ⟨by decide, rfl⟩
  · split
    · rename_i h1 h2
      split
      · exact .inl ⟨by decide, rfl⟩
      · exact .inr ⟨rfl, rfl, by omega, by omega, List.all_eq_true.1 h2⟩
    · exact .inl ⟨by decide, rfl⟩
theorem one_nil : one [] = none := rfl
theorem read_write {L : List Stp} (h1 : ∀ x ∈ L, ok x = true) (h2 : ∀ x ∈ L, Num x) (hl : L.length ≤ 4000) (hb : (L.flatMap pb).length ≤ 16384) : read (L.flatMap pb) = L := by
  unfold read
  rw [List.take_of_length_le hb]
  have := rd_write L 4000 [] h1 (fun x hx => ⟨(h2 x hx).1, (h2 x hx).2.1⟩) hl
  rw [List.append_nil, rd_none one_nil, List.append_nil] at this
  exact this
theorem read_more {L : List Stp} (h1 : ∀ x ∈ L, ok x = true) (h2 : ∀ x ∈ L, Num x) (more : Bs) (hb : (L.flatMap pb).length + more.length ≤ 16384) (hl : L.length + (read more).length ≤ 4000) : read (L.flatMap pb ++ more) = L ++ read more := by
  have e : read more = rd 4000 more := by unfold read; rw [List.take_of_length_le (by omega)]
  rw [e] at hl ⊢
  unfold read
  rw [List.take_of_length_le (by rw [List.length_append]; exact hb), rd_write L 4000 more h1 (fun x hx => ⟨(h2 x hx).1, (h2 x hx).2.1⟩) (by omega), rd_take (4000 - L.length) 4000 more (by omega), List.take_of_length_le (by omega)]
theorem one_stps (L : List Stp) : ∀ u ∈ stps L, u.oneCell' = true := by
  intro u hu
  obtain ⟨o, ho, hm⟩ := List.mem_flatMap.1 hu
  simp only [Stp.enc, List.mem_cons, List.not_mem_nil, or_false] at hm
  rcases hm with rfl | rfl | rfl | rfl | rfl | rfl | rfl <;> rfl
theorem Rd_drop {w : World} {ad : Addr} {xs : List Value} (h : Rd w (some ad) xs) (n : Nat) : Rd w (some (ad.add n)) (xs.drop n) := by
  intro j u hu
  rw [List.getElem?_drop] at hu
  obtain ⟨a', e, hc⟩ := h _ u hu
  cases e
  exact ⟨_, rfl, by rw [Addr.add_add]; exact hc⟩
theorem sl_stp_from (w0 : World) (A : Option Addr) (n i cap : Nat) (hi : i ≤ n) (hn : n ≤ cap) (cs : List Value) (hl : cs.length = n * 7) (hA : A = none → n = 0 ∧ cap = 0) (hr : Rd w0 A cs) :
    ∃ A2, (∀ w, (Instr.slice 77 (.slice A n cap) (some (.int .i64 i)) none none).run Try.prog w = .ok (.slice A2 (n - i) (cap - i)) w) ∧ (∀ w, (Instr.sliceAt 77 (.slice A n cap) (some (.int .i64 i)) none none).run Try.prog w = .ok (.slice A2 (n - i) (cap - i)) w) ∧
      Rd w0 A2 (cs.drop (i * 7)) := by
  have he : Try.prog.elem 77 = 108 := by simp [Program.elem, Try.underlying77]
  have ht : Try.prog.underlying 77 = some (.slice (Try.prog.elem 77)) := by rw [he]; exact Try.underlying77
  have hsz : ∀ w, (sizeOf 108).run Try.prog w = .ok 7 w := fun w => by kernel_rfl
  have h1 : ∀ w, (Instr.slice 77 (.slice A n cap) (some (.int .i64 i)) none none).run Try.prog w = .ok (.slice (if cap = i then A else A.map (·.add (i * 7))) (n - i) (cap - i)) w := by
    intro w
    rw [run_slice_l w _ A n cap ht .i64 i (by omega) (by omega), he, hsz]
    rfl
  refine ⟨_, h1, fun w => ?_, ?_⟩
  · rw [run_sliceAt_slice w _ _ _ _ _ ht]; exact h1 w
  · split
    · rename_i e
      have : i = n := by omega
      subst this
      rw [List.drop_eq_nil_of_le (by omega)]
      exact Rd.nil _ _
    · rename_i e
      cases A with
      | none => have := hA rfl; omega
      | some a => exact Rd_drop hr _
set_option maxRecDepth 100000 in
set_option maxHeartbeats 2000000 in
theorem back_any (w : World) (A : Option Addr) (cap : Nat) (L : List Stp) (q : Nat) (hq : L.length = q) (hr : Rd w A (stps L)) (hw : ∀ x ∈ L, Num x) (hb : q ≤ maxLen) (hA : A = none → q = 0 ∧ cap = 0) (more : Bs) (hml : more.length ≤ maxLen) :
    Calls Try.prog 12 #[.slice A q cap, .string (bs more)] w fun e w' => e = .returned (.bool true) ∧ Below w.heap.size w w' := by
  unfold maxLen at hb hml
  by_cases hg : 32768 < gsum L
  · have qg := fun wx (k : Keeps (fun _ => False) w wx) => great_any wx A cap L q hq (hr.old k) (by omega)
    have hgt : decide (32768 < gsum L) = true := by simpa using hg
    rw [hgt] at qg
    clear hg hgt
    go_enter Try.func12, Try.ntmps12
    go_wp2_with fail
    refine (awake_any w).mono ?_
    rintro e w1 ⟨rfl, k1⟩
    go_wp2_with fail
    refine (qg w1 k1).mono ?_
    rintro e w2 ⟨rfl, k2⟩
    go_wp2_with fail
    refine (awake_any w2).mono ?_
    rintro e w3 ⟨rfl, k3⟩
    go_wp2
    go_ret
    exact ⟨rfl, ((k1.trans k2).trans k3).below⟩
  · have qg := fun wx (k : Keeps (fun _ => False) w wx) => great_any wx A cap L q hq (hr.old k) (by omega)
    have hgt : decide (32768 < gsum L) = false := by simpa using hg
    rw [hgt] at qg
    have hfit := fit_of hw (by omega)
    have hql : q ≤ 8192 := by have := gsum_len L; omega
    clear hg hgt
    by_cases hm : 1000 < more.length
    · have hmd : decide ((more.length : Int) > 1000) = true := by simp; omega
      go_enter Try.func12, Try.ntmps12
      go_wp2_with fail
      refine (awake_any w).mono ?_
      rintro e w1 ⟨rfl, k1⟩
      go_wp2_with fail
      refine (qg w1 k1).mono ?_
      rintro e w2 ⟨rfl, k2⟩
      go_wp2_with fail
      refine (awake_any w2).mono ?_
      rintro e w3 ⟨rfl, k3⟩
      go_wp2
      go_ret
      exact ⟨rfl, ((k1.trans k2).trans k3).below⟩
    · have hmd : decide ((more.length : Int) > 1000) = false := by simp; omega
      have hm2 : more.length ≤ 1000 := by omega
      have HC := Hid.of (prt_cases L)
      have qp := fun wx A' cap' (h : Rd wx A' (stps L)) => print_any wx A' cap' L q hq h hfit (by omega)
      have HW := Hid.of hw
      obtain ⟨S, hS⟩ : ∃ S, (prt L).1 = S := ⟨_, rfl⟩
      obtain ⟨E, hE⟩ : ∃ E, (prt L).2 = E := ⟨_, rfl⟩
      rw [hS, hE] at HC qp
      clear hm hS hE hfit hw
      go_enter Try.func12, Try.ntmps12
      go_wp2_with fail
      refine (awake_any w).mono ?_
      rintro e w1 ⟨rfl, k1⟩
      go_wp2_with fail
      refine (qg w1 k1).mono ?_
      rintro e w2 ⟨rfl, k2⟩
      have k12 := k1.trans k2
      have r2 := hr.old k12
      obtain ⟨w3, hw3⟩ : ∃ w3, w2.alloc (.cells #[] 108) = w3 := ⟨_, rfl⟩
      have o3 : Own w3 108 7 (.slice (some ⟨w2.heap.size, 0, none⟩) 0 0) 0 [] := by rw [← hw3]; exact own_empty _ _ _
      have k3 : Keeps (fun _ => False) w2 w3 := by rw [← hw3]; exact (Keeps.refl _ _).alloc _
      have r3 := r2.old k3
      have hsl : (stps L).length = q * 7 := by rw [stps_length, hq]
      have H12 := Hid.of k12
      have HRR := Hid.of hr
      have hsz := k12.size
      clear qg k1 k2 k12 hr r2
      go_wp2_with (at_builtin; refine wpList_appN slSteps w3 rfl _ _ rfl _ rfl o3 A q cap (stps L) rfl hA hsl r3 (one_stps L) (by unfold maxLen; omega) (by omega) ?_; intro v5 w5 o5 k5 at5)
      have hx5 : ∃ A5 c5, v5 = .slice A5 q c5 ∧ Rd w5 A5 (stps L) := by
        obtain ⟨A5, c5, h1, _, _, h4⟩ := OutR.rd (B := 0) ⟨o5, fun _ _ => Nat.zero_le _⟩
        exact ⟨A5, c5, h1, h4⟩
      obtain ⟨A5, c5, rfl, r5⟩ := hx5
      have k25 : Keeps (fun _ => False) w2 w5 := k3.trans' k5 (fun x hx hl => by have hx' : some w2.heap.size = some x := hx; injection hx' with hx'; omega)
      have K5 := H12.out.trans k25
      have ra5 := HRR.out.old K5
      have HK5 := Hid.of K5
      clear k3 k5 o3 o5 at5 K5 k25 r3 hsz hw3 HRR H12
      go_wp2_with fail
      refine (qp w5 A5 c5 r5).mono ?_
      rintro e w6 ⟨rfl, k6⟩
      have K6 := HK5.out.trans k6
      have HK6 := Hid.of K6
      have ra6 := ra5.old k6
      clear ra5 r5 HK5 k6 qp K6
      rcases HC.out with ⟨h1, rfl⟩ | ⟨rfl, h2, h3, h4, h5⟩
      · have hE : (E != 0) = true := by simpa using h1
        have hstr : (([] : Bs) == (⟨#[]⟩ : ByteArray).toList) = true := by
          show (([] : Bs) == (bs []).toList) = true
          rw [bs_toList]; rfl
        clear HC h1
        go_wp2
        go_ret
        exact ⟨rfl, HK6.out.below⟩
      · have hr1 : read S = L := by rw [h2]; exact read_write h5 HW.out h3 h4
        have hr2 := read_more h5 HW.out more
        rw [← h2] at hr2 h4
        have HR2 := Hid.of hr2
        have HR1 := Hid.of hr1
        have q1 := fun wx (k : Keeps (fun _ => False) w6 wx) A' c' (hh : Rd wx A' (stps L)) => same_any wx A' A c' cap L L q q hh (ra6.old k) hq hq (by omega) (by omega)
        have hd : decide (L = L) = true := by simp
        rw [hd] at q1
        have hq4 : q ≤ 4000 := by omega
        have hS4 : S.length ≤ 16384 := h4
        clear hr1 hr2 HC h2 h3 h4 h5 hd
        go_wp2_with fail
        refine (read_any w6 S).mono ?_
        rintro e w7 ⟨v7, rfl, o7, k7⟩
        obtain ⟨A7, c7, rfl, -, -, r7⟩ := o7.rd
        rw [HR1.out] at r7
        rw [HR1.out, hq]
        have r7' := q1 w7 k7 A7 c7 r7
        have HK7 := Hid.of (HK6.out.trans k7)
        have HK67 := Hid.of k7
        clear r7 o7 k7 HR1
        go_wp2_with fail
        refine r7'.mono ?_
        rintro e w8 ⟨rfl, k8⟩
        have HK8 := Hid.of (HK7.out.trans k8)
        have HK68 := Hid.of (HK67.out.trans k8)
        clear r7' k8 HK7 HK67
        by_cases hb1 : S.length + more.length ≤ 16384
        · have hbd : decide ((16384 : Int) < (S.length : Int) + (more.length : Int)) = false := by simp; omega
          have hn := read_len more
          go_wp2_with fail
          refine (read_any w8 more).mono ?_
          rintro e w9 ⟨v9, rfl, o9, k9⟩
          obtain ⟨A9, c9, rfl, -, -, r9⟩ := o9.rd
          have HK9 := Hid.of (HK8.out.trans k9)
          have HK69 := Hid.of (HK68.out.trans k9)
          clear o9 k9 HK8 HK68
          obtain ⟨R, hR⟩ : ∃ R, read more = R := ⟨_, rfl⟩
          have HR := HR2.out hb1
          rw [hR] at r9 hn HR
          rw [hR]
          obtain ⟨p, hp⟩ : ∃ p, R.length = p := ⟨_, rfl⟩
          rw [hp] at hn
          rw [hp]
          by_cases hb2 : q + p ≤ 4000
          · have hbd2 : decide ((4000 : Int) < (q : Int) + (p : Int)) = false := by simp; omega
            have hadd : ∀ w, (Op.stringOp .add (bs S) (bs more)).run Try.prog w = .ok (.string (bs (S ++ more))) w := fun w => by
              rw [run_string_add_sum w _ _ (by rw [bs_size, bs_size]; omega), bs_append]
            have HRD := HR (by rw [hq, hp]; exact hb2)
            have HRE := Hid.of HRD
            clear HR HRD HR2 hR hbd
            go_wp2_with fail
            refine (read_any w9 (S ++ more)).mono ?_
            rintro e w10 ⟨v10, rfl, o10, k10⟩
            obtain ⟨A10, c10, rfl, hc10, hA10, r10⟩ := o10.rd
            have e10 : (read (S ++ more)).length = q + p := by rw [HRE.out, List.length_append, hq, hp]
            have hN10 : A10 = none → q + p = 0 ∧ c10 = 0 := by
              rintro rfl
              obtain ⟨-, h2⟩ := o10.1
              rcases h2 with ⟨h2, _⟩ | ⟨g, cp, cur, hv2, r⟩
              · injection h2 with _ e1 e2
                exact ⟨by rw [← e10]; exact e1, e2⟩
              · injection hv2 with e1; cases e1
            rw [e10] at hc10
            rw [HRE.out] at r10
            try rw [e10]
            have rT := rdc_take r10 (q * 7)
            rw [stps_take, show (L ++ R).take q = L by rw [← hq, List.take_left]] at rT
            have hcl : (stps (L ++ R)).length = (q + p) * 7 := by rw [stps_length, List.length_append, hq, hp]
            obtain ⟨s1, s2⟩ := sl_stp A10 (q + p) q c10 (by omega)
            obtain ⟨AB, s3, s4, rD⟩ := sl_stp_from w10 A10 (q + p) q c10 (by omega) hc10 (stps (L ++ R)) hcl hN10 r10
            rw [stps_append, ← hsl, List.drop_left] at rD
            rw [Nat.add_sub_cancel_left] at s3 s4
            have hq1 : (q : Int) ≤ (q : Int) + (p : Int) := by omega
            have hpq : ((q : Int) + (p : Int) == (q : Int) + (p : Int)) = true := by simp
            have hlc : (((q + p : Nat) : Int) == (q : Int) + (p : Int)) = true := by simp
            have K10 := HK9.out.trans k10
            have K610 := HK69.out.trans k10
            have HK10 := Hid.of K10
            have z1 := q1 w10 K610 A10 c10 rT
            have hd2 : decide (R = R) = true := by simp
            have z2 := fun wx (k : Keeps (fun _ => False) w10 wx) => same_any wx AB A9 (c10 - q) c9 R R p p (rD.old k) ((r9.old k10).old k) hp hp (by omega) (by omega)
            rw [hd2] at z2
            clear hd2 q1 K10 K610 rT rD r10 r9 o10 hN10 hA10 hcl e10 k10 HK9 HK69 HRE hadd ra6
            go_wp2_with fail
            refine z1.mono ?_
            rintro e w11 ⟨rfl, k11⟩
            have z3 := z2 w11 k11
            have HK11 := Hid.of (HK10.out.trans k11)
            clear z1 z2 k11 HK10
            go_wp2_with fail
            refine z3.mono ?_
            rintro e w12 ⟨rfl, k12⟩
            have HK12 := Hid.of (HK11.out.trans k12)
            clear z3 k12 HK11
            go_wp2
            go_ret
            exact ⟨rfl, HK12.out.below⟩
          · have hbd2 : decide ((4000 : Int) < (q : Int) + (p : Int)) = true := by simp; omega
            clear HR HR2 hR
            go_wp2
            go_ret
            exact ⟨rfl, HK9.out.below⟩
        · have hbd : decide ((16384 : Int) < (S.length : Int) + (more.length : Int)) = true := by simp; omega
          go_wp2
          go_ret
          exact ⟨rfl, HK8.out.below⟩
end Scr
end Go.Proofs.Ytmlolkjgniodpaa
