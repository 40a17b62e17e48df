/- The script package's pen: step, of any kind; Print. -/
import Derived.Test.YtmlolkjgniodpaaScrW
import Derived.Test.YtmlolkjgniodpaaScrM
set_option linter.unusedVariables false
set_option linter.unusedSimpArgs false
namespace Go.Proofs.Ytmlolkjgniodpaa
open Go.RowKit Go.ChangeMaps
attribute [-go_sem] run_index_string run_neq_struct run_eql_struct run_equalIn_agg
namespace Scr
theorem pstep_any (w : World) (b : Nat) (v : Value) (out : Bs) (bad : Bool) (k t n m hd : Int) (d : Bs) (bk : Int) (hp : PAt w b v out bad) (hl : out.length ≤ 10000000) (hdl : d.length ≤ 1000000) (hh0 : 0 ≤ hd) (hh1 : hd < 18446744073709551616)
    (hn : -9223372036854775808 ≤ n ∧ n ≤ 9223372036854775807) (hm : -9223372036854775808 ≤ m ∧ m ≤ 9223372036854775807) :
    Calls Try.prog 65 #[.pointer (some ⟨b, 0, none⟩), .agg #[.int .i64 k, .int .i64 t, .int .i64 n, .int .i64 m, .int .u64 hd, .string (bs d), .int .i64 bk]] w fun e w' => e = .returned (.tuple #[]) ∧ PRes w b v out bad ⟨k, t, n, m, hd, d, bk⟩ w' := by
  cases h : hasH k with
  | true => exact pstepH w b v out bad ⟨k, t, n, m, hd, d, bk⟩ h hp hl hdl hh0 hh1 hn hm
  | false => exact pstepO w b v out bad ⟨k, t, n, m, hd, d, bk⟩ h hp hl hdl hh0 hh1 hn hm
/-- A step whose numbers are of their kinds, and whose data are not great. -/
def Fit (x : Stp) : Prop := x.data.length ≤ 1000000 ∧ 0 ≤ x.handle ∧ x.handle < 18446744073709551616 ∧ (-9223372036854775808 ≤ x.n ∧ x.n ≤ 9223372036854775807) ∧ (-9223372036854775808 ≤ x.m ∧ x.m ≤ 9223372036854775807)
theorem pb_len {x : Stp} (h : ok x = true) : (pb x).length ≤ 300 := by
  have hb9 := hb_len x
  obtain ⟨k, t, n, m, hd, d, bk⟩ := x
  have hd : k = 10 → d.length ≤ 255 := by
    intro hk
    unfold ok at h
    simp only [Bool.and_eq_true, decide_eq_true_eq] at h
    have := h.2
    subst hk
    simpa using this
  unfold pb
  simp only [List.length_append, List.length_cons, List.length_nil] at *
  repeat' split
  all_goals
    simp [le16] <;> omega
/-- What Print answers. -/
def prt (L : List Stp) : Bs × Int :=
  if 4000 < L.length then ([], 12) else if L.all ok then (if 16384 < (L.flatMap pb).length then ([], 14) else (L.flatMap pb, 0)) else ([], 12)
theorem out_len (L : List Stp) (h : ∀ x ∈ L, ok x = true) : (L.flatMap pb).length ≤ L.length * 300 := by
  induction L with
  | nil => simp
  | cons x L ih =>
    have h1 := pb_len (h x (by simp))
    have h2 := ih (fun y hy => h y (by simp [hy]))
    simp only [List.flatMap_cons, List.length_append, List.length_cons]
    omega
set_option maxRecDepth 100000 in
set_option maxHeartbeats 1500000 in
theorem print_any (w : World) (A : Option Addr) (cap : Nat) (L : List Stp) (q : Nat) (hq : L.length = q) (hr : Rd w A (stps L)) (hw : ∀ x ∈ L, Fit x) (hb : q ≤ 1000000) :
    Calls Try.prog 51 #[.slice A q cap] w fun e w' => e = .returned (.tuple #[.string (bs (prt L).1), .int .i64 (prt L).2]) ∧ Keeps (fun _ => False) w w' := by
  by_cases h4 : 4000 < L.length
  · have e : prt L = ([], 12) := by unfold prt; rw [if_pos h4]
    rw [e]
    have h4' : decide ((4000 : Int) < (q : Int)) = true := by simp; omega
    have k1 : Keeps (fun _ => False) w (w.alloc (.cells #[.slice none 0 0, .bool false] 118)) := (Keeps.refl _ _).alloc _
    have HK := Hid.of k1
    clear k1 hr hw
    go_enter Try.func51, Try.ntmps51
    go_wp2
    go_ret2
    exact ⟨rfl, HK.out⟩
  · have e : prt L = if L.all ok then (if 16384 < (L.flatMap pb).length then ([], 14) else (L.flatMap pb, 0)) else ([], 12) := by unfold prt; rw [if_neg h4]
    have h4' : decide ((4000 : Int) < (q : Int)) = false := by simp; omega
    have hq4 : q ≤ 4000 := by omega
    have HE := Hid.of e
    generalize hR : prt L = R at *
    clear e hR h4
    obtain ⟨w1, hw1⟩ : ∃ w1, w.alloc (.cells #[.slice none 0 0, .bool false] 118) = w1 := ⟨_, rfl⟩
    have p1 : PAt w1 w.heap.size (.slice none 0 0) [] false := by rw [← hw1]; exact ⟨alloc_new _ _, Own.nil _ _ _, by simp [Value.ownBlock]⟩
    have k1 : Keeps (fun _ => False) w w1 := by rw [← hw1]; exact (Keeps.refl _ _).alloc _
    go_enter Try.func51, Try.ntmps51
    go_wp2
    obtain ⟨b, hb⟩ : ∃ b, w.heap.size = b := ⟨_, rfl⟩
    rw [hb] at p1
    try rw [hb]
    have HB := Hid.of hb
    clear hw1 hb h4'
    go_loopw [12] (fun i wr => ∃ (j : Nat) (v : Value) (out : Bs), j ≤ q ∧ i = .int .i64 j ∧ PAt wr b v out false ∧ (∀ g, v.ownBlock = some g → w.heap.size ≤ g) ∧ Keeps (fun _ => False) w wr ∧ Hid (out = (L.take j).flatMap pb) ∧ Hid (∀ x ∈ L.take j, ok x = true)) (fun i _ => q - (intOf i).toNat)
    case atStart => exact ⟨0, _, _, by omega, rfl, p1, by simp [Value.ownBlock], k1, Hid.of rfl, Hid.of (by simp)⟩
    case round =>
      clear p1 k1
      obtain ⟨j, v, out, hj, rfl, P, hv, K, HO, HA⟩ := hrel
      have ho : out.length ≤ 1200000 := by
        have := out_len _ HA.out
        rw [HO.out]
        have h2 : (L.take j).length ≤ 4000 := by rw [List.length_take]; omega
        omega
      obtain ⟨A2, cp, hve, -, -, -⟩ := P.2.1.shape
      subst hve
      by_cases hlt : j < q
      · have r0 := hr.old K
        obtain ⟨b1, o1, s1, x1, x2, x3, x4, x5, x6, x7, hg, rfl, d0, d1, d2, d3, d4, d5, d6⟩ := rstp r0 j (by omega)
        have HX := Hid.of hg
        have HT : Hid (L.take (j + 1) = L.take j ++ [⟨x1, x2, x3, x4, x5, x6, x7⟩]) := Hid.of (by rw [List.take_add_one, hg]; rfl)
        obtain ⟨f1, f2, f3, f4, f5⟩ := hw _ (List.mem_of_getElem? hg)
        simp only [] at f1 f2 f3 f4 f5
        have P2 : ∀ o, PAt (wr.alloc o) b (.slice A2 out.length cp) out false := fun o => P.keep ((Keeps.refl (fun _ => False) wr).alloc o) (fun x => x) (fun _ _ x => x)
        have KKo : ∀ o, Keeps (fun _ => False) w (wr.alloc o) := fun o => K.alloc o
        have HPP := Hid.of P2
        have HKK := Hid.of KKo
        have hlti : (j : Int) < (q : Int) := by omega
        clear P hg r0 hr K P2 KKo hw
        go_wp2_with fail
        refine (pstep_any _ b _ out false x1 x2 x3 x4 x5 x6 x7 (HPP.out _) (by omega) f1 f2 f3 f4 f5).mono ?_
        rintro e w3 ⟨rfl, v3, out3, P3, ho3, hl3, at3, k3⟩
        have KK := HKK.out (.cells #[.int .i64 x1, .int .i64 x2, .int .i64 x3, .int .i64 x4, .int .u64 x5, .string (bs x6), .int .i64 x7] 108)
        have HV : Hid (∀ g, v3.ownBlock = some g → w.heap.size ≤ g) := Hid.of (fun g hg => by
          rcases at3 with h | h
          · exact hv g (by rw [← h]; exact hg)
          · have := h g hg; have := KK.size; omega)
        have K3 : Keeps (fun _ => False) w w3 := KK.trans' k3 (fun x hx hl => by
          rcases hx with h | h
          · have := HB.out; omega
          · have := hv x h; omega)
        cases hok : ok ⟨x1, x2, x3, x4, x5, x6, x7⟩ with
        | true =>
          rw [hok] at P3
          have HO3 := Hid.of (ho3 hok)
          have P3' : PAt w3 b v3 out3 false := P3
          have z1 := cell_of (v := .bool false) P3'.1 1 rfl
          have HF := Hid.of (And.intro P3' K3)
          have HOK := Hid.of hok
          clear P3 P3' K3 k3 at3 KK d0 d1 d2 d3 d4 d5 d6 hv ho3 hl3 hok
          go_wp2
          go_roundw
          case rel =>
            refine ⟨j + 1, v3, out3, by omega, by go_num, HF.out.1, HV.out, HF.out.2, Hid.of ?_, Hid.of ?_⟩
            · rw [HO3.out, HT.out, List.flatMap_append, HO.out]; simp
            · intro x hx
              rw [HT.out, List.mem_append] at hx
              rcases hx with hx | hx
              · exact HA.out x hx
              · rw [List.mem_singleton] at hx; rw [hx]; exact HOK.out
          case measure => simp [intOf]; omega
        | false =>
          rw [hok] at P3
          have P3' : PAt w3 b v3 out3 true := P3
          have z1 := cell_of (v := .bool true) P3'.1 1 rfl
          have HF := Hid.of K3
          have HRE : Hid (R = ([], 12)) := Hid.of (by
            rw [HE.out, if_neg]
            intro hall
            rw [List.all_eq_true] at hall
            have := hall _ (List.mem_of_getElem? HX.out)
            rw [hok] at this; cases this)
          clear P3 P3' K3 k3 at3 KK d0 d1 d2 d3 d4 d5 d6 hv ho3 hl3 hok
          go_wp2
          go_ret2
          exact ⟨by rw [HRE.out]; rfl, HF.out⟩
      · obtain rfl : j = q := by omega
        have hn1 : ¬ ((j : Int) < (j : Int)) := by omega
        have hall : L.all ok = true := by
          rw [List.all_eq_true]
          intro x hx
          exact HA.out x (by rw [← hq, List.take_length]; exact hx)
        have hout : out = L.flatMap pb := by rw [HO.out, ← hq, List.take_length]
        have HR : Hid (R = if 16384 < out.length then ([], 14) else (out, 0)) := Hid.of (by rw [HE.out, if_pos hall, ← hout])
        obtain ⟨A2', cp', hve, cv⟩ := P.str
        obtain ⟨rfl, _, rfl⟩ : A2 = A2' ∧ True ∧ cp = cp' := by injection hve with e1 e2 e3; exact ⟨e1, trivial, e3⟩
        have z0 := cell_of (v := .slice A2 out.length cp) P.1 0 rfl
        have HK := Hid.of K
        clear P hv K hr hall hout hw hve
        by_cases hbig : 16384 < out.length
        · have hbi : decide ((16384 : Int) < (out.length : Int)) = true := by simp; omega
          have HRE : Hid (R = ([], 14)) := Hid.of (by rw [HR.out, if_pos hbig])
          clear hbig
          go_wp2
          go_ret2
          exact ⟨by rw [HRE.out]; rfl, HK.out⟩
        · have hbi : decide ((16384 : Int) < (out.length : Int)) = false := by simp; omega
          have HRE : Hid (R = (out, 0)) := Hid.of (by rw [HR.out, if_neg hbig])
          clear hbig
          go_wp2
          go_ret2
          exact ⟨by rw [HRE.out]; rfl, HK.out⟩
end Scr
end Go.Proofs.Ytmlolkjgniodpaa
