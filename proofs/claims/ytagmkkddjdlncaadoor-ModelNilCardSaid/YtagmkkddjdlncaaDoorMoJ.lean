/- The model package's walk: span. -/
import Derived.Test.YtagmkkddjdlncaaDoorMoI
set_option linter.unusedVariables false
set_option linter.unusedSimpArgs false
namespace Go.Proofs.YtagmkkddjdlncaaDoor
open Go.RowKit Go.ChangeMaps
namespace Mo
theorem Ok.fnd {P : PP} (ok : Ok P) {h : Nat} {r : Int} (he : (Ca.Fnd P.C h r).2 = 0) : ∃ o, eget P.E (Ca.Fnd P.C h r).1 = some o := by
  unfold Ca.Fnd at he ⊢
  cases hf : Ca.fnd P.C h with
  | none => rw [hf] at he; simp at he
  | some y =>
    rw [hf] at he
    dsimp only at he ⊢
    split at he
    · rename_i h1
      rw [if_pos h1]
      split at he
      · rename_i h2
        rw [if_pos h2]
        have hm : ∃ k, eget P.C.E k = some y := by
          unfold Ca.fnd at hf
          split at hf
          · split at hf
            · rename_i x hx
              split at hf
              · cases hf; exact ⟨_, hx⟩
              · cases hf
            · cases hf
          · cases hf
        obtain ⟨k, hk⟩ := hm
        have := ok.slots _ (eget_memE hk)
        exact Option.isSome_iff_exists.1 this
      · simp at he
    · simp at he
theorem PAt.look {w : World} {p : Plc} {g : Int → Nat} {P : PP} (H : PAt w p g P) {k : Int} {o : MO} (ho : eget P.E k = some o) :
    (Instr.lookup 56 (.map (some p.ob)) (.int .i64 k) false).run Tryd.prog w = .ok (.agg #[.slice (some ⟨g k, 0, none⟩) o.bs.length o.bs.length, .int .i64 o.cost]) w := by
  have := IMap.look_some (P := Tryd.prog) H.map 3 Tryd.underlying56 Tryd.underlying3 k (v := oenc (g k, o)) (by rw [aget_encs, eget_tag, ho]; rfl) false
  exact this
theorem fld_bytes (A : Option Addr) (n c : Nat) (v : Value) (w : World) : (Instr.field 63 (.agg #[.slice A n c, v]) 0).run Tryd.prog w = .ok (.slice A n c) w := by kernel_rfl
theorem fld_cost (u : Value) (n : Int) (w : World) : (Instr.field 63 (.agg #[u, .int .i64 n]) 1).run Tryd.prog w = .ok (.int .i64 n) w := by kernel_rfl
def so (o : MO) (from' : Int) : Nat := if o.bs.length = from'.toNat then 0 else from'.toNat
def SpanQ (w : World) (E : Int) (V : Value) (e : Ending) (w' : World) : Prop := ∃ v, e = .returned (.tuple #[v, .int .i64 E]) ∧ Keeps (fun _ => False) w w' ∧ (E ≠ 0 → v = .slice none 0 0) ∧ (E = 0 → v = V)
def SpanR (w : World) (p : Plc) (g : Int → Nat) (P : PP) (h : Nat) (r from' n : Int) : Ending → World → Prop :=
  SpanQ w (spanE P h r from' n) (.slice (some ⟨g (Ca.Fnd P.C h r).1, so (obj P (Ca.Fnd P.C h r).1) from', none⟩) n.toNat ((obj P (Ca.Fnd P.C h r).1).bs.length - from'.toNat))
theorem SpanQ.ok {w w' : World} {V : Value} (k : Keeps (fun _ => False) w w') : SpanQ w 0 V (.returned (.tuple #[V, .int .i64 0])) w' := ⟨V, rfl, k, fun h => absurd rfl h, fun _ => rfl⟩
theorem SpanQ.no {w w' : World} {V : Value} {E : Int} (hE : E ≠ 0) (k : Keeps (fun _ => False) w w') : SpanQ w E V (.returned (.tuple #[.slice none 0 0, .int .i64 E])) w' := ⟨_, rfl, k, fun _ => rfl, fun h => absurd h hE⟩
set_option maxRecDepth 100000 in
set_option maxHeartbeats 1000000 in
theorem span_any (w : World) (p : Plc) (g : Int → Nat) (P : PP) (h : Nat) (r from' n : Int) (H : PAt w p g P) (ok : Ok P) (hh : h < 18446744073709551616) (hn : n ≤ 9223372036854775807) (hf : from' ≤ 9223372036854775807) :
    Calls Tryd.prog 36 #[.pointer (some ⟨p.b, 0, none⟩), .int .u64 h, .int .i64 r, .int .i64 from', .int .i64 n] w (SpanR w p g P h r from' n) := by
  have q := Ca.Find_any w p.c P.C h r H.caps hh
  have c0 := cell_of (v := .pointer (some ⟨p.c.c, 0, none⟩)) H.cells 0 rfl
  by_cases he : (Ca.Fnd P.C h r).2 = 0
  · obtain ⟨o, ho⟩ := ok.fnd he
    have hob : obj P (Ca.Fnd P.C h r).1 = o := by unfold obj; rw [ho]; rfl
    have hlen := (ok.sz _ (eget_memE ho)).2
    have hlen2 : o.bs.length ≤ 8192 := by simp only at hlen; omega
    have hE : spanE P h r from' n = if 0 ≤ from' ∧ 0 ≤ n ∧ from' ≤ o.bs.length ∧ n ≤ o.bs.length - from' then 0 else 4 := by
      unfold spanE; rw [if_neg (by rw [he]; simp), hob]
    unfold SpanR
    rw [hE, hob]
    rw [he] at q
    generalize (Ca.Fnd P.C h r).1 = k at *
    have HH := Hid.of H
    have HO := Hid.of ho
    obtain ⟨L, hL⟩ : ∃ L, o.bs.length = L := ⟨_, rfl⟩
    rw [hL] at hlen2 ⊢
    obtain ⟨V, hV⟩ : ∃ V, Value.slice (some ⟨g k, so o from', none⟩) n.toNat (L - from'.toNat) = V := ⟨_, rfl⟩
    rw [hV]
    have HV := Hid.of hV
    unfold so at hV
    rw [hL] at hV
    have HV := Hid.of hV
    clear hV
    have hmin := fun ts ty w => Op1.run_min_i (P := Tryd.prog) ts ty from' n w
    have hs := fun (lo hi : Nat) (h1 : lo ≤ hi) (h2 : hi ≤ L) => bsl_lh (g k) L lo hi L h1 h2
    have HS := Hid.of hs
    have hfl := fld_bytes
    clear hs hlen hE hob ok H ho he
    by_cases hc : 0 ≤ from' ∧ 0 ≤ n ∧ from' ≤ L ∧ n ≤ L - from'
    · rw [if_pos hc]
      obtain ⟨f, rfl⟩ : ∃ f : Nat, from' = f := ⟨from'.toNat, by omega⟩
      obtain ⟨m, rfl⟩ : ∃ m : Nat, n = m := ⟨n.toNat, by omega⟩
      have hM : ¬ (if (m : Int) < f then (m : Int) else f) < 0 := by split <;> omega
      generalize (if (m : Int) < f then (m : Int) else f) = M at *
      have t1 : decide (M < 0) = false := by simpa using hM
      have t2 : decide (L < f) = false := by simp; omega
      have wr : IntKind.i64.wrap ((L : Int) - f) = L - f := IntWalk.i64_in _ (by omega)
      have wr' : wrap64 ((L : Int) - f) = L - f := by unfold wrap64; omega
      have ws : wrap64 ((f : Int) + m) = ((f + m : Nat) : Int) := by unfold wrap64; omega
      have t3 : decide ((L : Int) - f < m) = false := by simp; omega
      have hV := HV.out
      simp only [Int.toNat_natCast] at hV
      clear hM HV
      by_cases hLf : L = f
      · rw [if_pos hLf] at hV
        obtain rfl : m = 0 := by omega
        subst hLf
        obtain ⟨s1, s2⟩ := HS.out L (L + 0) (by omega) (by omega)
        rw [if_pos rfl] at s1 s2
        rw [Nat.sub_self] at hV
        have HV := Hid.of hV
        clear hc HS hV
        go_enter Tryd.func36, Tryd.ntmps36
        go_wp2_with fail
        refine q.mono ?_
        rintro e w1 ⟨rfl, k1⟩
        have H1 := HH.out.old k1
        have lk := H1.look HO.out
        rw [hL] at lk
        have c4 := cell_of (v := .map (some p.ob)) H1.cells 4 rfl
        have HK := Hid.of k1
        clear k1 H1 q
        go_wp2
        all_goals
          go_ret2
          rw [← HV.out]
          exact SpanQ.ok HK.out
      · rw [if_neg hLf] at hV
        obtain ⟨hi, hhi⟩ : ∃ hi, f + m = hi := ⟨_, rfl⟩
        rw [hhi] at ws
        obtain ⟨s1, s2⟩ := HS.out f hi (by omega) (by omega)
        rw [if_neg hLf] at s1 s2
        rw [show hi - f = m by omega] at s1 s2
        have HV := Hid.of hV
        clear hc HS hV hhi
        go_enter Tryd.func36, Tryd.ntmps36
        go_wp2_with fail
        refine q.mono ?_
        rintro e w1 ⟨rfl, k1⟩
        have H1 := HH.out.old k1
        have lk := H1.look HO.out
        rw [hL] at lk
        have c4 := cell_of (v := .map (some p.ob)) H1.cells 4 rfl
        have HK := Hid.of k1
        clear k1 H1 q
        go_wp2
        go_ret2
        rw [← HV.out]
        exact SpanQ.ok HK.out
    · rw [if_neg hc]
      have hM : (if n < from' then n else from') < 0 ∨ (¬ (if n < from' then n else from') < 0 ∧ (L : Int) < from') ∨ (¬ (if n < from' then n else from') < 0 ∧ ¬ (L : Int) < from' ∧ (L : Int) - from' < n) := by
        split <;> omega
      have hbd : ¬ (if n < from' then n else from') < 0 → 0 ≤ from' := by split <;> omega
      generalize (if n < from' then n else from') = M at *
      clear hc HS
      rcases hM with h1 | ⟨h1, h2⟩ | ⟨h1, h2, h3⟩
      · have t1 : decide (M < 0) = true := by simpa using h1
        clear h1 hbd
        go_enter Tryd.func36, Tryd.ntmps36
        go_wp2_with fail
        refine q.mono ?_
        rintro e w1 ⟨rfl, k1⟩
        have H1 := HH.out.old k1
        have lk := H1.look HO.out
        rw [hL] at lk
        have c4 := cell_of (v := .map (some p.ob)) H1.cells 4 rfl
        have HK := Hid.of k1
        clear k1 H1 q
        go_wp2
        go_ret2
        exact SpanQ.no (by decide) HK.out
      · have t1 : decide (M < 0) = false := by simpa using h1
        have t2 : decide ((L : Int) < from') = true := by simpa using h2
        clear h1 h2 hbd
        go_enter Tryd.func36, Tryd.ntmps36
        go_wp2_with fail
        refine q.mono ?_
        rintro e w1 ⟨rfl, k1⟩
        have H1 := HH.out.old k1
        have lk := H1.look HO.out
        rw [hL] at lk
        have c4 := cell_of (v := .map (some p.ob)) H1.cells 4 rfl
        have HK := Hid.of k1
        clear k1 H1 q
        go_wp2
        go_ret2
        exact SpanQ.no (by decide) HK.out
      · have hfb := hbd h1
        have t1 : decide (M < 0) = false := by simpa using h1
        have t2 : decide ((L : Int) < from') = false := by simpa using h2
        have wr : IntKind.i64.wrap ((L : Int) - from') = L - from' := IntWalk.i64_in _ (by omega)
        have wr' : wrap64 ((L : Int) - from') = L - from' := by unfold wrap64; omega
        have t3 : decide ((L : Int) - from' < n) = true := by simpa using h3
        clear h1 h2 h3 hbd hfb
        go_enter Tryd.func36, Tryd.ntmps36
        go_wp2_with fail
        refine q.mono ?_
        rintro e w1 ⟨rfl, k1⟩
        have H1 := HH.out.old k1
        have lk := H1.look HO.out
        rw [hL] at lk
        have c4 := cell_of (v := .map (some p.ob)) H1.cells 4 rfl
        have HK := Hid.of k1
        clear k1 H1 q
        go_wp2
        go_ret2
        exact SpanQ.no (by decide) HK.out
  · have hE : spanE P h r from' n = (Ca.Fnd P.C h r).2 := by unfold spanE; rw [if_pos he]
    unfold SpanR
    rw [hE]
    generalize (Ca.Fnd P.C h r).2 = E at *
    generalize (Ca.Fnd P.C h r).1 = k at *
    have t0 : (E != 0) = true := by simpa using he
    have HE := Hid.of he
    clear hE he ok H
    go_enter Tryd.func36, Tryd.ntmps36
    go_wp2_with fail
    refine q.mono ?_
    rintro e w1 ⟨rfl, k1⟩
    have HK := Hid.of k1
    clear k1 q
    go_wp2
    go_ret2
    exact SpanQ.no HE.out HK.out
theorem span_ok {P : PP} {h : Nat} {r f n : Int} (he : spanE P h r f n = 0) : (Ca.Fnd P.C h r).2 = 0 ∧ 0 ≤ f ∧ 0 ≤ n ∧ f ≤ (obj P (Ca.Fnd P.C h r).1).bs.length ∧ n ≤ (obj P (Ca.Fnd P.C h r).1).bs.length - f := by
  unfold spanE at he
  split at he
  · rename_i h1; exact absurd he h1
  · rename_i h1
    split at he
    · rename_i h2
      exact ⟨by omega, h2.1, h2.2.1, h2.2.2.1, h2.2.2.2⟩
    · simp at he
theorem span_rd {w : World} {b : Nat} {o : MO} (row : BAt w b o.bs) {f n : Int} (h0 : 0 ≤ f) (h1 : 0 ≤ n) (h2 : f ≤ o.bs.length) (h3 : n ≤ o.bs.length - f) : Rd w (some ⟨b, so o f, none⟩) (u8s ((o.bs.drop f.toNat).take n.toNat)) := by
  unfold so
  split
  · rename_i e
    have : n.toNat = 0 := by omega
    rw [this, List.take_zero]
    exact Rd.nil _ _
  · exact row.rd f.toNat n.toNat
theorem so_put {o : MO} {f : Int} {d : Bs} (h0 : 0 ≤ f) (h2 : f ≤ o.bs.length) (h3 : (d.length : Int) ≤ o.bs.length - f) : bput o.bs (so o f) d = bput o.bs f.toNat d ∧ so o f + d.length ≤ o.bs.length := by
  unfold so
  split
  · have : d = [] := List.eq_nil_of_length_eq_zero (by omega)
    subst this
    rw [bput_nil, bput_nil]
    exact ⟨rfl, by simp⟩
  · exact ⟨rfl, by omega⟩
end Mo
end Go.Proofs.YtagmkkddjdlncaaDoor
