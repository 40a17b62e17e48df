/- garthlaw17's arguments: the operations (a row of ints in each), and long. -/
import Derived.Test.YtnheibcjcgacpaaGreatDoorHek
set_option linter.unusedVariables false
set_option linter.unusedSimpArgs false
namespace Go.Proofs.YtnheibcjcgacpaaGreatDoor
open Go.RowKit Go.ChangeMaps
namespace Hm
theorem i64_of' {x : Int} (h : (Lit.int .i64 x).wf = true) : -9223372036854775808 ≤ x ∧ x ≤ 9223372036854775807 := by
  simp only [Lit.wf, Bool.and_eq_true, decide_eq_true_eq] at h
  have m1 : IntKind.i64.min = -9223372036854775808 := rfl
  have m2 : IntKind.i64.max = 9223372036854775807 := rfl
  omega
/-- A row of ints, with its bounds. -/
theorem ints_arg2 {w : World} {n : Nat} {v : Value} (h : Leaf.ok w (n + 2) (.sl 1 [.int .i64]) v) :
    ∃ A m cap W, v = .slice A m cap ∧ (A = none → m = 0 ∧ cap = 0) ∧ W.length = m ∧ Rd w A (ints W) ∧ m ≤ maxLen := by
  have h0 := h
  obtain ⟨A, m, cap, W, hv, h1, h2, h3⟩ := He.ints_arg h
  obtain ⟨A', len, cap', hv', hlc, hcm, hA, hr⟩ := h0
  rw [hv] at hv'
  injection hv' with e1 e2 e3
  subst e1 e2 e3
  exact ⟨A, m, cap, W, hv, h1, h2, h3, by omega⟩
/-- An operation of garthlaw17. -/
structure HOp where
  kind : Int
  n : Int
  two : Bool
  A : Option Addr
  m : Nat
  cap : Nat
  W : List Int
def HOp.enc (o : HOp) : List Value := [.int .i64 o.kind, .int .i64 o.n, .bool o.two, .slice o.A o.m o.cap]
structure HOp.Ok (w : World) (o : HOp) : Prop where
  k : -9223372036854775808 ≤ o.kind ∧ o.kind ≤ 9223372036854775807
  n : -9223372036854775808 ≤ o.n ∧ o.n ≤ 9223372036854775807
  a : o.A = none → o.m = 0 ∧ o.cap = 0
  l : o.W.length = o.m
  r : Rd w o.A (ints o.W)
  b : o.m ≤ maxLen
theorem HOp.Ok.old {w w' : World} {o : HOp} (h : o.Ok w) (k : Keeps (fun _ => False) w w') : o.Ok w' := { h with r := h.r.old k }
theorem dec_hop {w : World} {n : Nat} (cs : List Value) (h : All2 (Leaf.ok w (n + 2)) [.int .i64, .int .i64, .bool, .sl 1 [.int .i64]] cs) : ∃ x : HOp, x.Ok w ∧ cs = x.enc := by
  obtain ⟨b1, bs1, rfl, h1, g1⟩ := h.inv_cons
  obtain ⟨b2, bs2, rfl, h2, g2⟩ := g1.inv_cons
  obtain ⟨b3, bs3, rfl, h3, g3⟩ := g2.inv_cons
  obtain ⟨b4, bs4, rfl, h4, g4⟩ := g3.inv_cons
  obtain rfl := g4.inv_nil
  obtain ⟨x1, rfl, q1⟩ := h1
  obtain ⟨x2, rfl, q2⟩ := h2
  obtain ⟨x3, rfl⟩ := h3
  obtain ⟨A, m, cap, W, rfl, q4, q5, q6, q7⟩ := ints_arg2 h4
  exact ⟨⟨x1, x2, x3, A, m, cap, W⟩, ⟨i64_of' q1, i64_of' q2, q4, q5, q6, q7⟩, rfl⟩
def hops (L : List HOp) : List Value := L.flatMap HOp.enc
theorem hops_arg {w : World} {n : Nat} {v : Value} (h : Leaf.ok w (n + 3) (.sl 4 [.int .i64, .int .i64, .bool, .sl 1 [.int .i64]]) v) :
    ∃ A cap xs, v = .slice A (xs : List HOp).length cap ∧ xs.length ≤ maxLen ∧ (A = none → xs.length = 0 ∧ cap = 0) ∧ (∀ x ∈ xs, x.Ok w) ∧ Rd w A (hops xs) := by
  obtain ⟨A, cap, xs, hv, h1, h2, h3⟩ := rows_list w (n + 2) 4 _ HOp.enc (HOp.Ok w) (fun _ => rfl) dec_hop h
  obtain ⟨A', len', cap', hv', hlc, hcm, hn, _⟩ := h
  rw [hv] at hv'
  injection hv' with e1 e2 e3
  subst e1 e2 e3
  exact ⟨_, _, xs, hv, h1, hn, h2, h3⟩
theorem rhop {w : World} {A : Option Addr} {xs : List HOp} (h : Rd w A (hops xs)) (j : Nat) (hj : j < xs.length) :
    ∃ b o s k n t B m c W, xs[j]? = some ⟨k, n, t, B, m, c, W⟩ ∧ A = some ⟨b, o, s⟩ ∧ w.cell? ((⟨b, o, s⟩ : Addr).add (j * 4)) = some (.int .i64 k) ∧ w.cell? ⟨((⟨b, o, s⟩ : Addr).add (j * 4)).block, ((⟨b, o, s⟩ : Addr).add (j * 4)).off + 1, none⟩ = some (.int .i64 n) ∧
      w.cell? ⟨((⟨b, o, s⟩ : Addr).add (j * 4)).block, ((⟨b, o, s⟩ : Addr).add (j * 4)).off + 2, none⟩ = some (.bool t) ∧ w.cell? ⟨((⟨b, o, s⟩ : Addr).add (j * 4)).block, ((⟨b, o, s⟩ : Addr).add (j * 4)).off + 3, none⟩ = some (.slice B m c) := by
  have e := List.getElem?_eq_getElem hj
  have g := flatMap_get HOp.enc 4 (fun _ => rfl) xs j _ e
  obtain ⟨ad, rfl, h0⟩ := h _ _ (g 0 (by omega))
  obtain ⟨a1, q, h1⟩ := h _ _ (g 1 (by omega)); cases q
  obtain ⟨a1, q, h2⟩ := h _ _ (g 2 (by omega)); cases q
  obtain ⟨a1, q, h3⟩ := h _ _ (g 3 (by omega)); cases q
  exact ⟨_, _, _, _, _, _, _, _, _, _, e, rfl, h0, cell_field (by omega) h1, cell_field (by omega) h2, cell_field (by omega) h3⟩
theorem take_snoc {α : Type} {xs : List α} {j : Nat} {x : α} (h : xs[j]? = some x) : xs.take (j + 1) = xs.take j ++ [x] := by rw [List.take_add_one, h]; rfl
/-- What long tells: false: there are few. -/
def LongH (w : World) (P : Int) (n0 n1 : Nat) (xs : List HOp) (e : Ending) (w' : World) : Prop := ∃ b : Bool, e = .returned (.bool b) ∧ Keeps (fun _ => False) w w' ∧ (b = false → xs.length ≤ 250 ∧ P ≤ 512 ∧ (xs ≠ [] → n0 + n1 ≤ 1500) ∧ ∀ x ∈ xs, x.m ≤ 1500)
theorem len_wrap {N m : Nat} (hN : N ≤ 40000000000000) (h : m ≤ 17592186044416) : wrap64 (2 + (m : Int)) = ((2 + m : Nat) : Int) ∧ wrap64 ((N : Int) + ((2 + m : Nat) : Int)) = ((N + (2 + m) : Nat) : Int) := by
  unfold wrap64; omega
theorem len_wrap2 {a b : Nat} (ha : a ≤ 17592186044416) (hb : b ≤ 17592186044416) : wrap64 ((a : Int) + (b : Int)) = ((a + b : Nat) : Int) ∧ a + b ≤ 40000000000000 := by
  unfold wrap64; omega
theorem len_more {N m N' : Nat} (h : N + (2 + m) = N') (h2 : N' ≤ 1500) : m ≤ 1500 ∧ N ≤ 1500 := by omega
set_option maxRecDepth 100000 in
set_option maxHeartbeats 1000000 in
theorem long_any (w : World) (P C : Int) (A0 A1 A : Option Addr) (n0 c0 n1 c1 cap : Nat) (xs : List HOp) (L : Nat) (hL : xs.length = L) (hr : Rd w A (hops xs)) (hl : L ≤ maxLen) (hm : Hid (∀ x ∈ xs, x.m ≤ 17592186044416)) (h0 : Hid (n0 ≤ 17592186044416)) (h1 : Hid (n1 ≤ 17592186044416)) :
    Calls Tryz.prog 17 #[.agg #[.int .i64 P, .int .i64 C, .slice A0 n0 c0, .slice A1 n1 c1], .slice A L cap] w (LongH w P n0 n1 xs) := by
  unfold maxLen at hl
  obtain ⟨cb, hcb⟩ : ∃ cb, w.heap.size = cb := ⟨_, rfl⟩
  obtain ⟨w1, hw1⟩ : ∃ w1, w.alloc (.cells #[.int .i64 P, .int .i64 C, .slice A0 n0 c0, .slice A1 n1 c1] 26) = w1 := ⟨_, rfl⟩
  have k1 : Keeps (fun _ => False) w w1 := by rw [← hw1]; exact (Keeps.refl _ _).alloc _
  have b1 : w1.heap[cb]? = some (.cells #[.int .i64 P, .int .i64 C, .slice A0 n0 c0, .slice A1 n1 c1] 26 (0, 0)) := by rw [← hw1, ← hcb]; exact alloc_new _ _
  have x2 := cell_of (v := .slice A0 n0 c0) b1 2 rfl
  have x3 := cell_of (v := .slice A1 n1 c1) b1 3 rfl
  obtain ⟨ws, hNb⟩ := len_wrap2 h0.out h1.out
  obtain ⟨N0, hN0⟩ : ∃ N0, n0 + n1 = N0 := ⟨_, rfl⟩
  rw [hN0] at ws hNb
  have HK := Hid.of (And.intro k1 (And.intro b1 (And.intro hN0 hNb)))
  have HR := Hid.of (And.intro hr hL)
  clear k1 b1 hr hL hNb hN0
  go_enter Tryz.func17, Tryz.ntmps17
  go_wp2
  try go_region
  go_wp2
  have HWs := Hid.of ws
  clear hw1 hcb ws x2 x3
  go_loopw [5, 17] (fun v i wr => ∃ (k N : Nat), k ≤ L ∧ i = .int .i64 k ∧ v = .int .i64 N ∧ Hid (Keeps (fun _ => False) w1 wr ∧ (k = 0 → N = N0) ∧ (0 < k → N ≤ 1500 ∧ N0 ≤ 1500) ∧ ∀ x ∈ xs.take k, x.m ≤ 1500)) (fun v i _ => L - (intOf i).toNat)
  case atStart => exact ⟨0, N0, by omega, rfl, by first | rfl | rw [HWs.out], Hid.of ⟨Keeps.refl _ _, fun _ => rfl, fun h => by omega, by simp⟩⟩
  case round =>
    obtain ⟨k, N, hk, rfl, rfl, HI⟩ := hrel
    by_cases hlt : k < L
    · have rr := (HR.out.1.old HK.out.1).old HI.out.1
      obtain ⟨b, o, s, kk, n, t, B, m, c, W, hg, rfl, z0, z1, z2, z3⟩ := rhop rr k (by rw [HR.out.2]; exact hlt)
      have hkd : decide ((k : Int) < (L : Int)) = true := by simp; omega
      have hmx : m ≤ 17592186044416 := hm.out _ (List.mem_of_getElem? hg)
      have hNN : N ≤ 40000000000000 := by
        by_cases e : k = 0
        · have := HI.out.2.1 e; have := HK.out.2.2.2; omega
        · have := (HI.out.2.2.1 (by omega)).1; omega
      obtain ⟨wa, wb⟩ := len_wrap hNN hmx
      have HN0 : Hid (N0 ≤ N ∨ N0 ≤ 1500) := Hid.of (by
        by_cases e : k = 0
        · have := HI.out.2.1 e; omega
        · exact .inr (HI.out.2.2.1 (by omega)).2)
      obtain ⟨M2, hM2⟩ : ∃ M2, 2 + m = M2 := ⟨_, rfl⟩
      rw [hM2] at wa wb
      obtain ⟨N', hN'⟩ : ∃ N', N + M2 = N' := ⟨_, rfl⟩
      rw [hN'] at wb
      have H1 := Hid.of (And.intro hg (And.intro hM2 hN'))
      obtain ⟨w2, hw2⟩ : ∃ w2, wr.alloc (.cells #[.int .i64 kk, .int .i64 n, .bool t, .slice B m c] 44) = w2 := ⟨_, rfl⟩
      have k2 : Keeps (fun _ => False) wr w2 := by rw [← hw2]; exact (Keeps.refl _ _).alloc _
      have b2 : w2.heap[wr.heap.size]? = some (.cells #[.int .i64 kk, .int .i64 n, .bool t, .slice B m c] 44 (0, 0)) := by rw [← hw2]; exact alloc_new _ _
      obtain ⟨ob, hob⟩ : ∃ ob, wr.heap.size = ob := ⟨_, rfl⟩
      rw [hob] at b2
      have y3 := cell_of (v := .slice B m c) b2 3 rfl
      have HK2 := Hid.of (HI.out.1.trans k2)
      have HTk := Hid.of HI.out.2.2.2
      clear b2 rr hg k2 hmx hNN hM2 hN' HI
      by_cases hbig : (1500 : Int) < (N' : Int)
      · have tb : decide ((1500 : Int) < (N' : Int)) = true := by simpa using hbig
        have tb' : decide (1500 < N') = true := by simp; omega
        clear hbig
        go_wp2
        try go_region
        go_wp2
        go_ret
        exact ⟨true, rfl, HK.out.1.trans HK2.out, fun h => by cases h⟩
      · have tb : decide ((1500 : Int) < (N' : Int)) = false := by simpa using hbig
        have tb' : decide (1500 < N') = false := by simp; omega
        have hN2 : N' ≤ 1500 := by omega
        have HT : Hid (N' ≤ 1500 ∧ N0 ≤ 1500 ∧ ∀ x ∈ xs.take (k + 1), x.m ≤ 1500) := Hid.of (by
          have hl1 : m ≤ 1500 ∧ N ≤ 1500 := by have := H1.out.2.1; have := H1.out.2.2; omega
          refine ⟨hN2, by rcases HN0.out with e | e <;> omega, ?_⟩
          intro x hx
          rw [take_snoc H1.out.1] at hx
          rcases List.mem_append.1 hx with h | h
          · exact HTk.out x h
          · simp only [List.mem_singleton] at h
            subst h
            exact hl1.1)
        clear hbig hN2
        go_wp2
        try go_region
        go_wp2
        go_roundw
        case rel => exact ⟨k + 1, N', by omega, by go_num, by first | rfl | rw [wb], Hid.of ⟨HK2.out, fun e => by omega, fun _ => ⟨HT.out.1, HT.out.2.1⟩, HT.out.2.2⟩⟩
        case measure => simp [intOf]; omega
    · obtain rfl : k = L := by omega
      have hkd : decide ((k : Int) < (k : Int)) = false := by simp
      have c0 := cell_of (v := .int .i64 P) (HI.out.1.at HK.out.2.1 (fun x => x)) 0 rfl
      have HF := Hid.of (HK.out.1.trans HI.out.1)
      have HX : Hid ((xs ≠ [] → n0 + n1 ≤ 1500) ∧ ∀ x ∈ xs, x.m ≤ 1500) := Hid.of (by
        have h4 := HI.out.2.2.2
        have hlen := HR.out.2
        rw [List.take_of_length_le (by omega)] at h4
        refine ⟨fun hne => ?_, h4⟩
        have hp : 0 < k := by
          rw [← hlen]
          exact List.length_pos_iff.2 hne
        have := (HI.out.2.2.1 hp).2
        have := HK.out.2.2.1
        omega)
      clear HI
      by_cases hbig : (250 : Int) < (k : Int)
      · have tb : decide ((250 : Int) < (k : Int)) = true := by simpa using hbig
        have tb' : decide (250 < k) = true := by simp; omega
        clear hbig
        go_wp2
        try go_region
        all_goals
          go_wp2
          go_ret
          first | exact ⟨true, rfl, HF.out, fun h => by cases h⟩ | exact ⟨true, rfl, HF.out.drew, fun h => by cases h⟩
      · have tb : decide ((250 : Int) < (k : Int)) = false := by simpa using hbig
        have tb' : decide (250 < k) = false := by simp; omega
        have HL : Hid (xs.length ≤ 250) := Hid.of (by have := HR.out.2; omega)
        clear hbig
        cases hp : decide ((512 : Int) < P) with
        | true =>
          go_wp2
          try go_region
          all_goals
            go_wp2
            go_ret
            first | exact ⟨true, rfl, HF.out, fun h => by cases h⟩ | exact ⟨true, rfl, HF.out.drew, fun h => by cases h⟩
        | false =>
          have HP : Hid (P ≤ 512) := Hid.of (by simp at hp; omega)
          go_wp2
          try go_region
          all_goals
            go_wp2
            go_ret
            first | exact ⟨false, rfl, HF.out, fun _ => ⟨HL.out, HP.out, HX.out.1, HX.out.2⟩⟩ | exact ⟨false, rfl, HF.out.drew, fun _ => ⟨HL.out, HP.out, HX.out.1, HX.out.2⟩⟩
end Hm
end Go.Proofs.YtnheibcjcgacpaaGreatDoor
