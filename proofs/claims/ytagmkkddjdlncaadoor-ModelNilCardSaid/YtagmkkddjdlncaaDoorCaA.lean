/- The caps package's walks: New, find, Find, good.may, Serial. -/
import Derived.Test.YtagmkkddjdlncaaDoorShC
import Derived.Test.YtagmkkddjdlncaaDoorHan
set_option linter.unusedVariables false
set_option linter.unusedSimpArgs false
namespace Go.Proofs.YtagmkkddjdlncaaDoor
open Go.RowKit Go.ChangeMaps
namespace Ca
/-- A slot: rights, serial, address. -/
structure Slt where
  r : Int
  n : Int
  a : Int
def Slt.enc (x : Slt) : Value := .agg #[.int .i64 x.r, .int .i64 x.n, .int .i64 x.a]
def Slt.zero : Slt := ⟨0, 0, 0⟩
/-- What a table of handles knows. -/
structure Cp where
  T : Nat
  N : Nat
  E : List (Int × Slt)
  A : List Bool
  B : List Bool
/-- Where a table lies. -/
structure Pl where
  c : Nat
  m : Nat
  s : Nat
  u : Nat
  v : Value
  x : Value
/-- What a table may turn. -/
def Fp (p : Pl) (i : Nat) : Prop := i = p.c ∨ i = p.m ∨ Sh.Fp p.s p.v i ∨ Sh.Fp p.u p.x i
structure At (w : World) (p : Pl) (C : Cp) : Prop where
  cells : w.heap[p.c]? = some (.cells #[.int .i64 C.T, .int .i64 C.N, .map (some p.m), .pointer (some ⟨p.s, 0, none⟩), .pointer (some ⟨p.u, 0, none⟩)] 81 (0, 0))
  map : EMap Slt.enc w p.m C.E
  sa : Sh.At w p.s p.v C.A
  sb : Sh.At w p.u p.x C.B
  cm : p.c ≠ p.m
  cs : ¬ Sh.Fp p.s p.v p.c
  cu : ¬ Sh.Fp p.u p.x p.c
  ms : ¬ Sh.Fp p.s p.v p.m
  mu : ¬ Sh.Fp p.u p.x p.m
  su : ∀ i, Sh.Fp p.s p.v i → ¬ Sh.Fp p.u p.x i
  off : ¬ Fp p 0
theorem At.keep {F : Nat → Prop} {w w' : World} {p : Pl} {C : Cp} (h : At w p C) (hk : Keeps F w w') (hf : ∀ x, Fp p x → ¬ F x) : At w' p C :=
  { h with
    cells := hk.at h.cells (hf _ (.inl rfl))
    map := h.map.keep hk (hf _ (.inr (.inl rfl)))
    sa := h.sa.keep hk (fun x hx => hf x (.inr (.inr (.inl hx))))
    sb := h.sb.keep hk (fun x hx => hf x (.inr (.inr (.inr hx)))) }
theorem At.old {w w' : World} {p : Pl} {C : Cp} (h : At w p C) (hk : Keeps (fun _ => False) w w') : At w' p C := h.keep hk (fun _ _ x => x)
theorem At.lt {w : World} {p : Pl} {C : Cp} (h : At w p C) {x : Nat} (hx : Fp p x) : x < w.heap.size := by
  rcases hx with rfl | rfl | hx | hx
  · exact lt_of h.cells
  · exact h.map.lt
  · exact h.sa.lt hx
  · exact h.sb.lt hx
def new (T N : Nat) : Cp := ⟨T, N, [], List.replicate 4096 true, List.replicate 64 true⟩
def NewR (w : World) (T N : Nat) (e : Ending) (w' : World) : Prop := ∃ p : Pl, e = .returned (.tuple #[.pointer (some ⟨p.c, 0, none⟩), .int .i64 0]) ∧ At w' p (new T N) ∧ (∀ x, Fp p x → w.heap.size ≤ x) ∧ Keeps (fun _ => False) w w'
set_option maxRecDepth 100000 in
set_option maxHeartbeats 1000000 in
theorem new_any (w : World) (T N : Nat) (hT : T < 8) (h1 : 1 ≤ N) (h2 : N ≤ 17592186044416) (hg : 0 < w.heap.size) :
    Calls Tryd.prog 29 #[.int .i64 T, .int .i64 N] w (NewR w T N) := by
  have qa := Sh.new_any w 4096 (by omega)
  have qb := fun w => Sh.new_any w 64 (by omega)
  have hmm := @run_makeMap Tryd.prog
  have hTi : (T : Int) < 8 := by omega
  have d1 : decide (8 ≤ T) = false := by simp; omega
  have d2 : decide (N < 1) = false := by simp; omega
  have d3 : decide (17592186044416 < N) = false := by simp; omega
  go_enter Tryd.func29, Tryd.ntmps29
  go_wp2_with fail
  refine qa.mono ?_
  rintro e w1 ⟨s, v, rfl, a1, f1, k1⟩
  have q1 := qb w1
  clear qa qb
  go_wp2_with fail
  refine q1.mono ?_
  rintro e w2 ⟨u, x, rfl, b2, f2, k2⟩
  clear q1
  obtain ⟨m, hm⟩ : ∃ m, w2.heap.size = m := ⟨_, rfl⟩
  obtain ⟨w3, hw3⟩ : ∃ w3, w2.alloc (.map #[] 0) = w3 := ⟨_, rfl⟩
  obtain ⟨c, hc⟩ : ∃ c, w3.heap.size = c := ⟨_, rfl⟩
  obtain ⟨w4, hw4⟩ : ∃ w4, w3.alloc (.cells #[.int .i64 T, .int .i64 N, .map (some m), .pointer (some ⟨s, 0, none⟩), .pointer (some ⟨u, 0, none⟩)] 81) = w4 := ⟨_, rfl⟩
  have k3 : Keeps (fun _ => False) w2 w3 := by rw [← hw3]; exact (Keeps.refl _ _).alloc _
  have k4 : Keeps (fun _ => False) w3 w4 := by rw [← hw4]; exact (Keeps.refl _ _).alloc _
  have m3 : EMap Slt.enc w3 m [] := by rw [← hw3, ← hm]; exact EMap.new _ _
  have c4 : w4.heap[c]? = some (.cells #[.int .i64 T, .int .i64 N, .map (some m), .pointer (some ⟨s, 0, none⟩), .pointer (some ⟨u, 0, none⟩)] 81 (0, 0)) := by rw [← hw4, ← hc]; exact alloc_new _ _
  have HF : Hid (NewR w T N (.returned (.tuple #[.pointer (some ⟨c, 0, none⟩), .int .i64 0])) w4) := Hid.of (by
    have z1 := k1.size
    have z2 := k2.size
    have z3 := k3.size
    have hmc : m < c := by have := m3.lt; omega
    have la : ∀ i, Sh.Fp s v i → w.heap.size ≤ i ∧ i < w1.heap.size := fun i hi => ⟨f1 i hi, a1.lt hi⟩
    have lb : ∀ i, Sh.Fp u x i → w1.heap.size ≤ i ∧ i < w2.heap.size := fun i hi => ⟨f2 i hi, b2.lt hi⟩
    refine ⟨⟨c, m, s, u, v, x⟩, rfl, ⟨c4, m3.keep k4 (fun x => x), ((a1.old k2).old k3).old k4, (b2.old k3).old k4, ?_, ?_, ?_, ?_, ?_, ?_, ?_⟩, ?_, ((k1.trans k2).trans k3).trans k4⟩
    · show c ≠ m; omega
    · intro h; have h' := la _ h; simp only at h'; omega
    · intro h; have h' := lb _ h; simp only at h'; omega
    · intro h; have h' := la _ h; simp only at h'; omega
    · intro h; have h' := lb _ h; simp only at h'; omega
    · intro i hi hj; have h1 := la i hi; have h2 := lb i hj; omega
    · rintro (h | h | h | h)
      · simp only at h; omega
      · simp only at h; omega
      · have := la _ h; omega
      · have := lb _ h; omega
    · rintro i (h | h | h | h)
      · simp only at h; omega
      · simp only at h; omega
      · have := la _ h; omega
      · have := lb _ h; omega)
  clear a1 f1 k1 b2 f2 k2 k3 k4 m3 c4 hg
  go_wp2
  go_ret2
  exact HF.out
/-- Whose handle it is. -/
def fnd (C : Cp) (h : Nat) : Option Slt := if Han.umay h then (match eget C.E (Han.us h) with
  | some x => if Han.ut h = C.T ∧ x.r = Han.ur h ∧ x.n = Han.un h then some x else none
  | none => none) else none
def fndV (C : Cp) (h : Nat) : Value := match fnd C h with
  | some x => .tuple #[x.enc, .int .i64 0]
  | none => .tuple #[Slt.zero.enc, .int .i64 5]
theorem zero_slot (w : World) : (zeroValue 86).run Tryd.prog w = .ok Slt.zero.enc w := by kernel_rfl
theorem set3 {w : World} {b : Nat} {x0 x1 x2 : Value} {t : TypeId} (h : w.heap[b]? = some (.cells #[x0, x1, x2] t (0, 0))) (y0 y1 y2 : Value) :
    (((w.setCell ⟨b, 0, none⟩ y0).setCell ⟨b, 1, none⟩ y1).setCell ⟨b, 2, none⟩ y2).heap[b]? = some (.cells #[y0, y1, y2] t (0, 0)) := by
  have h0 := set_of h 0 y0
  have h1 := set_of h0 1 y1
  exact set_of h1 2 y2
set_option maxRecDepth 100000 in
set_option maxHeartbeats 1000000 in
theorem find_any (w : World) (p : Pl) (C : Cp) (h : Nat) (H : At w p C) (hh : h < 18446744073709551616) :
    Calls Tryd.prog 41 #[.pointer (some ⟨p.c, 0, none⟩), .int .u64 h] w fun e w' => e = .returned (fndV C h) ∧ Keeps (fun _ => False) w w' := by
  have q := fun w => Han.unpack_any w h hh
  obtain ⟨A, hA⟩ : ∃ A, w.heap.size = A := ⟨_, rfl⟩
  obtain ⟨w1, hw1⟩ : ∃ w1, w.alloc (.cells #[.int .i64 0, .int .i64 0, .int .i64 0] 86) = w1 := ⟨_, rfl⟩
  have k1 : Keeps (fun _ => False) w w1 := by rw [← hw1]; exact (Keeps.refl _ _).alloc _
  have ha1 : w1.heap[A]? = some (.cells #[.int .i64 0, .int .i64 0, .int .i64 0] 86 (0, 0)) := by rw [← hw1, ← hA]; exact alloc_new _ _
  have q1 := q w1
  clear q
  unfold Han.upV at q1
  cases hm : Han.umay h
  · have hF : fndV C h = .tuple #[Slt.zero.enc, .int .i64 5] := by unfold fndV fnd; rw [hm]; rfl
    rw [hm] at q1
    simp only [Bool.false_eq_true, if_false] at q1
    unfold Han.key at q1
    rw [hF]
    clear hF hm
    go_enter Tryd.func41, Tryd.ntmps41
    go_wp2_with fail
    refine q1.mono ?_
    rintro e w2 ⟨rfl, k2⟩
    obtain ⟨B, hB⟩ : ∃ B, w2.heap.size = B := ⟨_, rfl⟩
    go_wp2
    obtain ⟨w3, hw3⟩ : ∃ w3, w2.alloc (.cells #[.int .i64 0, .int .i64 0, .int .i64 0, .int .i64 0] 103) = w3 := ⟨_, rfl⟩
    obtain ⟨D, hD⟩ : ∃ D, w3.heap.size = D := ⟨_, rfl⟩
    obtain ⟨w4, hw4⟩ : ∃ w4, w3.alloc (.cells #[.int .i64 0, .int .i64 0, .int .i64 0] 86) = w4 := ⟨_, rfl⟩
    rw [hw3]
    have k3 : Keeps (fun _ => False) w2 w3 := by rw [← hw3]; exact (Keeps.refl _ _).alloc _
    have hb3 : w3.heap[B]? = some (.cells #[.int .i64 0, .int .i64 0, .int .i64 0, .int .i64 0] 103 (0, 0)) := by rw [← hw3, ← hB]; exact alloc_new _ _
    have k4 : Keeps (fun _ => False) w3 w4 := by rw [← hw4]; exact (Keeps.refl _ _).alloc _
    have hd4 : w4.heap[D]? = some (.cells #[.int .i64 0, .int .i64 0, .int .i64 0] 86 (0, 0)) := by rw [← hw4, ← hD]; exact alloc_new _ _
    have H3 := ((H.old k1).old k2).old k3
    have H4 := H3.old k4
    have lk3 := (H3.map.drew).look_ok (P := Tryd.prog) 3 Tryd.underlying78 Tryd.underlying3 (0 : Int) (z := Slt.zero) (zero_slot _)
    have hp3 := cell_of (v := .map (some p.m)) H3.cells 2 rfl
    have g3 := cell_of (v := .int .i64 0) hb3 1 rfl
    have hb4 := k4.at hb3 (fun x => x)
    have lk := (H4.map.drew).look_ok (P := Tryd.prog) 3 Tryd.underlying78 Tryd.underlying3 (0 : Int) (z := Slt.zero) (zero_slot _)
    generalize (eget C.E 0).getD Slt.zero = x at lk lk3
    obtain ⟨xr, xn, xa⟩ := x
    generalize (eget C.E 0).isSome = there at lk lk3
    unfold Slt.enc at lk lk3
    have hp4 := cell_of (v := .map (some p.m)) H4.cells 2 rfl
    have g1 := cell_of (v := .int .i64 0) hb4 1 rfl
    have f0 := free_of hd4 0
    have f1 := free_of hd4 1
    have f2 := free_of hd4 2
    have u0 := cell_of (v := .int .i64 0) hd4 0 rfl
    have u1 := cell_of (v := .int .i64 0) hd4 1 rfl
    have u2 := cell_of (v := .int .i64 0) hd4 2 rfl
    obtain ⟨w5, hw5⟩ : ∃ w5, ((w4.setCell ⟨D, 0, none⟩ (.int .i64 xr)).setCell ⟨D, 1, none⟩ (.int .i64 xn)).setCell ⟨D, 2, none⟩ (.int .i64 xa) = w5 := ⟨_, rfl⟩
    have hd5 := set3 hd4 (.int .i64 xr) (.int .i64 xn) (.int .i64 xa)
    rw [hw5] at hd5
    have k35 : Keeps (fun _ => False) w3 w5 := by
      rw [← hw5]
      exact ((k4.setCell _ _ (.inr (Nat.le_of_eq hD))).setCell _ _ (.inr (Nat.le_of_eq hD))).setCell _ _ (.inr (Nat.le_of_eq hD))
    have hb5 := k35.at hb3 (fun x => x)
    have H5 := (((H.old k1).old k2).old k3).old k35
    have hp5 := cell_of (v := .int .i64 C.T) H5.cells 0 rfl
    have y0 := cell_of (v := .int .i64 0) hb5 0 rfl
    have y2 := cell_of (v := .int .i64 0) hb5 2 rfl
    have y3 := cell_of (v := .int .i64 0) hb5 3 rfl
    have v0 := cell_of (v := .int .i64 xr) hd5 0 rfl
    have v1 := cell_of (v := .int .i64 xn) hd5 1 rfl
    have v2 := cell_of (v := .int .i64 xa) hd5 2 rfl
    obtain ⟨w6, hw6⟩ : ∃ w6, w5.drew.drew = w6 := ⟨_, rfl⟩
    have k56 : Keeps (fun _ => False) w5 w6 := by rw [← hw6]; exact ((Keeps.refl _ _).drew).drew
    have HW6 := Hid.of hw6
    clear hw6
    have K6 := (((k1.trans k2).trans k3).trans k35).trans k56
    have ha6 := ((((k2.trans k3).trans k35).trans k56).at ha1 (fun x => x))
    have hd6 := k56.at hd5 (fun x => x)
    have d0 := free_of ha6 0
    have d1 := free_of ha6 1
    have d2 := free_of ha6 2
    have z0 := cell_of (v := .int .i64 0) ha6 0 rfl
    have z1 := cell_of (v := .int .i64 0) ha6 1 rfl
    have z2 := cell_of (v := .int .i64 0) ha6 2 rfl
    have t0 := cell_of (v := .int .i64 xr) hd6 0 rfl
    have t1 := cell_of (v := .int .i64 xn) hd6 1 rfl
    have t2 := cell_of (v := .int .i64 xa) hd6 2 rfl
    obtain ⟨w7, hw7⟩ : ∃ w7, ((w6.setCell ⟨A, 0, none⟩ (.int .i64 0)).setCell ⟨A, 1, none⟩ (.int .i64 0)).setCell ⟨A, 2, none⟩ (.int .i64 0) = w7 := ⟨_, rfl⟩
    have ha7 := set3 ha6 (.int .i64 0) (.int .i64 0) (.int .i64 0)
    rw [hw7] at ha7
    have s0 := cell_of (v := .int .i64 0) ha7 0 rfl
    have s1 := cell_of (v := .int .i64 0) ha7 1 rfl
    have s2 := cell_of (v := .int .i64 0) ha7 2 rfl
    have HK7 : Hid (Keeps (fun _ => False) w w7) := Hid.of (by
      rw [← hw7]
      exact ((K6.setCell _ _ (.inr (Nat.le_of_eq hA))).setCell _ _ (.inr (Nat.le_of_eq hA))).setCell _ _ (.inr (Nat.le_of_eq hA)))
    clear k56 K6 ha6 hd6 ha7
    clear k1 k2 k3 hb3 H3 H4 k4 hd4 hb4 H5 hd5 k35 hb5 hw3 ha1 hw1
    go_region
    clear lk lk3 hp3 hp4 g1 g3 f0 f1 f2 u0 u1 u2 hw5
    go_wp2
    go_region
    clear y0 y2 y3 v0 v1 v2 hp5
    rw [HW6.out]
    go_wp2
    refine bodyPost_ret (v := .tuple #[.agg #[.int .i64 0, .int .i64 0, .int .i64 0], .int .i64 5]) ?_ ?_ ?_
    · rw [results_cell_tmp (p := 4) (u := 5) (ty := 86) rfl]
      go_simp
    · rfl
    · exact ⟨rfl, HK7.out⟩
  · have hF : fndV C h = match (match eget C.E (Han.us h) with
        | some x => if Han.ut h = C.T ∧ x.r = Han.ur h ∧ x.n = Han.un h then some x else none
        | none => none) with
        | some x => .tuple #[x.enc, .int .i64 0]
        | none => .tuple #[Slt.zero.enc, .int .i64 5] := by unfold fndV fnd; rw [hm]; rfl
    rw [hm] at q1
    simp only [if_true] at q1
    unfold Han.key at q1
    rw [hF]
    clear hF hm
    obtain ⟨KS, hKS⟩ : ∃ z : Int, ((Han.us h : Nat) : Int) = z := ⟨_, rfl⟩
    obtain ⟨KR, hKR⟩ : ∃ z : Int, ((Han.ur h : Nat) : Int) = z := ⟨_, rfl⟩
    obtain ⟨KN, hKN⟩ : ∃ z : Int, ((Han.un h : Nat) : Int) = z := ⟨_, rfl⟩
    rw [hKS, hKR, hKN] at q1
    rw [hKS, hKR, hKN]
    obtain ⟨kt, hkt⟩ : ∃ z : Nat, Han.ut h = z := ⟨_, rfl⟩
    rw [hkt] at q1
    rw [hkt]
    clear hKS hKR hKN hkt
    cases hx : eget C.E KS with
    | none =>
      show Calls _ _ _ _ fun e w' => e = .returned (.tuple #[Slt.zero.enc, .int .i64 5]) ∧ _
      go_enter Tryd.func41, Tryd.ntmps41
      go_wp2_with fail
      refine q1.mono ?_
      rintro e w2 ⟨rfl, k2⟩
      obtain ⟨B, hB⟩ : ∃ B, w2.heap.size = B := ⟨_, rfl⟩
      go_wp2
      obtain ⟨w3, hw3⟩ : ∃ w3, w2.alloc (.cells #[.int .i64 (kt : Int), .int .i64 KS, .int .i64 KR, .int .i64 KN] 103) = w3 := ⟨_, rfl⟩
      obtain ⟨D, hD⟩ : ∃ D, w3.heap.size = D := ⟨_, rfl⟩
      obtain ⟨w4, hw4⟩ : ∃ w4, w3.alloc (.cells #[.int .i64 0, .int .i64 0, .int .i64 0] 86) = w4 := ⟨_, rfl⟩
      rw [hw3]
      have k3 : Keeps (fun _ => False) w2 w3 := by rw [← hw3]; exact (Keeps.refl _ _).alloc _
      have hb3 : w3.heap[B]? = some (.cells #[.int .i64 (kt : Int), .int .i64 KS, .int .i64 KR, .int .i64 KN] 103 (0, 0)) := by rw [← hw3, ← hB]; exact alloc_new _ _
      have k4 : Keeps (fun _ => False) w3 w4 := by rw [← hw4]; exact (Keeps.refl _ _).alloc _
      have hd4 : w4.heap[D]? = some (.cells #[.int .i64 0, .int .i64 0, .int .i64 0] 86 (0, 0)) := by rw [← hw4, ← hD]; exact alloc_new _ _
      have H3 := ((H.old k1).old k2).old k3
      have H4 := H3.old k4
      have lk3 := (H3.map.drew).look_ok (P := Tryd.prog) 3 Tryd.underlying78 Tryd.underlying3 KS (z := Slt.zero) (zero_slot _)
      have hp3 := cell_of (v := .map (some p.m)) H3.cells 2 rfl
      have g3 := cell_of (v := .int .i64 KS) hb3 1 rfl
      have hb4 := k4.at hb3 (fun x => x)
      have lk := (H4.map.drew).look_ok (P := Tryd.prog) 3 Tryd.underlying78 Tryd.underlying3 KS (z := Slt.zero) (zero_slot _)
      rw [hx] at lk lk3
      have exr : (none : Option Slt).getD Slt.zero = ⟨0, 0, 0⟩ := rfl
      have exi : (none : Option Slt).isSome = false := rfl
      rw [exr, exi] at lk lk3
      unfold Slt.enc at lk lk3
      have hp4 := cell_of (v := .map (some p.m)) H4.cells 2 rfl
      have g1 := cell_of (v := .int .i64 KS) hb4 1 rfl
      have f0 := free_of hd4 0
      have f1 := free_of hd4 1
      have f2 := free_of hd4 2
      have u0 := cell_of (v := .int .i64 0) hd4 0 rfl
      have u1 := cell_of (v := .int .i64 0) hd4 1 rfl
      have u2 := cell_of (v := .int .i64 0) hd4 2 rfl
      obtain ⟨w5, hw5⟩ : ∃ w5, ((w4.setCell ⟨D, 0, none⟩ (.int .i64 0)).setCell ⟨D, 1, none⟩ (.int .i64 0)).setCell ⟨D, 2, none⟩ (.int .i64 0) = w5 := ⟨_, rfl⟩
      have hd5 := set3 hd4 (.int .i64 0) (.int .i64 0) (.int .i64 0)
      rw [hw5] at hd5
      have k35 : Keeps (fun _ => False) w3 w5 := by
        rw [← hw5]
        exact ((k4.setCell _ _ (.inr (Nat.le_of_eq hD))).setCell _ _ (.inr (Nat.le_of_eq hD))).setCell _ _ (.inr (Nat.le_of_eq hD))
      have hb5 := k35.at hb3 (fun x => x)
      have H5 := (((H.old k1).old k2).old k3).old k35
      have hp5 := cell_of (v := .int .i64 C.T) H5.cells 0 rfl
      have y0 := cell_of (v := .int .i64 (kt : Int)) hb5 0 rfl
      have y2 := cell_of (v := .int .i64 KR) hb5 2 rfl
      have y3 := cell_of (v := .int .i64 KN) hb5 3 rfl
      have v0 := cell_of (v := .int .i64 0) hd5 0 rfl
      have v1 := cell_of (v := .int .i64 0) hd5 1 rfl
      have v2 := cell_of (v := .int .i64 0) hd5 2 rfl
      obtain ⟨w6, hw6⟩ : ∃ w6, w5.drew.drew = w6 := ⟨_, rfl⟩
      have k56 : Keeps (fun _ => False) w5 w6 := by rw [← hw6]; exact ((Keeps.refl _ _).drew).drew
      have HW6 := Hid.of hw6
      clear hw6
      have K6 := (((k1.trans k2).trans k3).trans k35).trans k56
      have ha6 := ((((k2.trans k3).trans k35).trans k56).at ha1 (fun x => x))
      have hd6 := k56.at hd5 (fun x => x)
      have d0 := free_of ha6 0
      have d1 := free_of ha6 1
      have d2 := free_of ha6 2
      have z0 := cell_of (v := .int .i64 0) ha6 0 rfl
      have z1 := cell_of (v := .int .i64 0) ha6 1 rfl
      have z2 := cell_of (v := .int .i64 0) ha6 2 rfl
      have t0 := cell_of (v := .int .i64 0) hd6 0 rfl
      have t1 := cell_of (v := .int .i64 0) hd6 1 rfl
      have t2 := cell_of (v := .int .i64 0) hd6 2 rfl
      obtain ⟨w7, hw7⟩ : ∃ w7, ((w6.setCell ⟨A, 0, none⟩ (.int .i64 0)).setCell ⟨A, 1, none⟩ (.int .i64 0)).setCell ⟨A, 2, none⟩ (.int .i64 0) = w7 := ⟨_, rfl⟩
      have ha7 := set3 ha6 (.int .i64 0) (.int .i64 0) (.int .i64 0)
      rw [hw7] at ha7
      have s0 := cell_of (v := .int .i64 0) ha7 0 rfl
      have s1 := cell_of (v := .int .i64 0) ha7 1 rfl
      have s2 := cell_of (v := .int .i64 0) ha7 2 rfl
      have HK7 : Hid (Keeps (fun _ => False) w w7) := Hid.of (by
        rw [← hw7]
        exact ((K6.setCell _ _ (.inr (Nat.le_of_eq hA))).setCell _ _ (.inr (Nat.le_of_eq hA))).setCell _ _ (.inr (Nat.le_of_eq hA)))
      clear k56 K6 ha6 hd6 ha7
      clear k1 k2 k3 hb3 H3 H4 k4 hd4 hb4 H5 hd5 k35 hb5 hw3 ha1 hw1
      go_region
      clear lk lk3 hp3 hp4 g1 g3 f0 f1 f2 u0 u1 u2 hw5
      go_wp2
      go_region
      clear y0 y2 y3 v0 v1 v2 hp5
      rw [HW6.out]
      go_wp2
      refine bodyPost_ret (v := .tuple #[.agg #[.int .i64 0, .int .i64 0, .int .i64 0], .int .i64 5]) ?_ ?_ ?_
      · rw [results_cell_tmp (p := 4) (u := 5) (ty := 86) rfl]
        go_simp
      · rfl
      · exact ⟨rfl, HK7.out⟩
    | some x =>
      obtain ⟨xr, xn, xa⟩ := x
      show Calls _ _ _ _ fun e w' => e = .returned (match (if kt = C.T ∧ xr = KR ∧ xn = KN then some (⟨xr, xn, xa⟩ : Slt) else none) with
        | some x => .tuple #[x.enc, .int .i64 0]
        | none => .tuple #[Slt.zero.enc, .int .i64 5]) ∧ _
      by_cases h1 : kt = C.T
      · by_cases h2 : xr = KR
        · by_cases h3 : xn = KN
          · rw [if_pos ⟨h1, h2, h3⟩]
            show Calls _ _ _ _ fun e w' => e = .returned (.tuple #[.agg #[.int .i64 xr, .int .i64 xn, .int .i64 xa], .int .i64 0]) ∧ _
            have b1 : ((kt : Int) != (C.T : Int)) = false := by simp; omega
            subst h2 h3
            clear h1
            go_enter Tryd.func41, Tryd.ntmps41
            go_wp2_with fail
            refine q1.mono ?_
            rintro e w2 ⟨rfl, k2⟩
            obtain ⟨B, hB⟩ : ∃ B, w2.heap.size = B := ⟨_, rfl⟩
            go_wp2
            obtain ⟨w3, hw3⟩ : ∃ w3, w2.alloc (.cells #[.int .i64 (kt : Int), .int .i64 KS, .int .i64 xr, .int .i64 xn] 103) = w3 := ⟨_, rfl⟩
            obtain ⟨D, hD⟩ : ∃ D, w3.heap.size = D := ⟨_, rfl⟩
            obtain ⟨w4, hw4⟩ : ∃ w4, w3.alloc (.cells #[.int .i64 0, .int .i64 0, .int .i64 0] 86) = w4 := ⟨_, rfl⟩
            rw [hw3]
            have k3 : Keeps (fun _ => False) w2 w3 := by rw [← hw3]; exact (Keeps.refl _ _).alloc _
            have hb3 : w3.heap[B]? = some (.cells #[.int .i64 (kt : Int), .int .i64 KS, .int .i64 xr, .int .i64 xn] 103 (0, 0)) := by rw [← hw3, ← hB]; exact alloc_new _ _
            have k4 : Keeps (fun _ => False) w3 w4 := by rw [← hw4]; exact (Keeps.refl _ _).alloc _
            have hd4 : w4.heap[D]? = some (.cells #[.int .i64 0, .int .i64 0, .int .i64 0] 86 (0, 0)) := by rw [← hw4, ← hD]; exact alloc_new _ _
            have H3 := ((H.old k1).old k2).old k3
            have H4 := H3.old k4
            have lk3 := (H3.map.drew).look_ok (P := Tryd.prog) 3 Tryd.underlying78 Tryd.underlying3 KS (z := Slt.zero) (zero_slot _)
            have hp3 := cell_of (v := .map (some p.m)) H3.cells 2 rfl
            have g3 := cell_of (v := .int .i64 KS) hb3 1 rfl
            have hb4 := k4.at hb3 (fun x => x)
            have lk := (H4.map.drew).look_ok (P := Tryd.prog) 3 Tryd.underlying78 Tryd.underlying3 KS (z := Slt.zero) (zero_slot _)
            rw [hx] at lk lk3
            have exr : (some (⟨xr, xn, xa⟩ : Slt)).getD Slt.zero = ⟨xr, xn, xa⟩ := rfl
            have exi : (some (⟨xr, xn, xa⟩ : Slt)).isSome = true := rfl
            rw [exr, exi] at lk lk3
            unfold Slt.enc at lk lk3
            have hp4 := cell_of (v := .map (some p.m)) H4.cells 2 rfl
            have g1 := cell_of (v := .int .i64 KS) hb4 1 rfl
            have f0 := free_of hd4 0
            have f1 := free_of hd4 1
            have f2 := free_of hd4 2
            have u0 := cell_of (v := .int .i64 0) hd4 0 rfl
            have u1 := cell_of (v := .int .i64 0) hd4 1 rfl
            have u2 := cell_of (v := .int .i64 0) hd4 2 rfl
            obtain ⟨w5, hw5⟩ : ∃ w5, ((w4.setCell ⟨D, 0, none⟩ (.int .i64 xr)).setCell ⟨D, 1, none⟩ (.int .i64 xn)).setCell ⟨D, 2, none⟩ (.int .i64 xa) = w5 := ⟨_, rfl⟩
            have hd5 := set3 hd4 (.int .i64 xr) (.int .i64 xn) (.int .i64 xa)
            rw [hw5] at hd5
            have k35 : Keeps (fun _ => False) w3 w5 := by
              rw [← hw5]
              exact ((k4.setCell _ _ (.inr (Nat.le_of_eq hD))).setCell _ _ (.inr (Nat.le_of_eq hD))).setCell _ _ (.inr (Nat.le_of_eq hD))
            have hb5 := k35.at hb3 (fun x => x)
            have H5 := (((H.old k1).old k2).old k3).old k35
            have hp5 := cell_of (v := .int .i64 C.T) H5.cells 0 rfl
            have y0 := cell_of (v := .int .i64 (kt : Int)) hb5 0 rfl
            have y2 := cell_of (v := .int .i64 xr) hb5 2 rfl
            have y3 := cell_of (v := .int .i64 xn) hb5 3 rfl
            have v0 := cell_of (v := .int .i64 xr) hd5 0 rfl
            have v1 := cell_of (v := .int .i64 xn) hd5 1 rfl
            have v2 := cell_of (v := .int .i64 xa) hd5 2 rfl
            obtain ⟨w6, hw6⟩ : ∃ w6, w5.drew.drew = w6 := ⟨_, rfl⟩
            have k56 : Keeps (fun _ => False) w5 w6 := by rw [← hw6]; exact ((Keeps.refl _ _).drew).drew
            have HW6 := Hid.of hw6
            clear hw6
            have K6 := (((k1.trans k2).trans k3).trans k35).trans k56
            have ha6 := ((((k2.trans k3).trans k35).trans k56).at ha1 (fun x => x))
            have hd6 := k56.at hd5 (fun x => x)
            have d0 := free_of ha6 0
            have d1 := free_of ha6 1
            have d2 := free_of ha6 2
            have z0 := cell_of (v := .int .i64 0) ha6 0 rfl
            have z1 := cell_of (v := .int .i64 0) ha6 1 rfl
            have z2 := cell_of (v := .int .i64 0) ha6 2 rfl
            have t0 := cell_of (v := .int .i64 xr) hd6 0 rfl
            have t1 := cell_of (v := .int .i64 xn) hd6 1 rfl
            have t2 := cell_of (v := .int .i64 xa) hd6 2 rfl
            obtain ⟨w7, hw7⟩ : ∃ w7, ((w6.setCell ⟨A, 0, none⟩ (.int .i64 xr)).setCell ⟨A, 1, none⟩ (.int .i64 xn)).setCell ⟨A, 2, none⟩ (.int .i64 xa) = w7 := ⟨_, rfl⟩
            have ha7 := set3 ha6 (.int .i64 xr) (.int .i64 xn) (.int .i64 xa)
            rw [hw7] at ha7
            have s0 := cell_of (v := .int .i64 xr) ha7 0 rfl
            have s1 := cell_of (v := .int .i64 xn) ha7 1 rfl
            have s2 := cell_of (v := .int .i64 xa) ha7 2 rfl
            have HK7 : Hid (Keeps (fun _ => False) w w7) := Hid.of (by
              rw [← hw7]
              exact ((K6.setCell _ _ (.inr (Nat.le_of_eq hA))).setCell _ _ (.inr (Nat.le_of_eq hA))).setCell _ _ (.inr (Nat.le_of_eq hA)))
            clear k56 K6 ha6 hd6 ha7
            clear k1 k2 k3 hb3 H3 H4 k4 hd4 hb4 H5 hd5 k35 hb5 hw3 ha1 hw1
            go_region
            clear lk lk3 hp3 hp4 g1 g3 f0 f1 f2 u0 u1 u2 hw5
            go_wp2
            go_region
            clear y0 y2 y3 v0 v1 v2 hp5
            rw [HW6.out]
            go_wp2
            refine bodyPost_ret (v := .tuple #[.agg #[.int .i64 xr, .int .i64 xn, .int .i64 xa], .int .i64 0]) ?_ ?_ ?_
            · rw [results_cell_tmp (p := 4) (u := 5) (ty := 86) rfl]
              go_simp
            · rfl
            · exact ⟨rfl, HK7.out⟩
          · rw [if_neg (fun h => h3 h.2.2)]
            show Calls _ _ _ _ fun e w' => e = .returned (.tuple #[Slt.zero.enc, .int .i64 5]) ∧ _
            have b1 : ((kt : Int) != (C.T : Int)) = false := by simp; omega
            have b3 : (xn == KN) = false := by simpa using h3
            have b2 : (xr == KR) = true := by simpa using h2
            clear h1 h2 h3
            go_enter Tryd.func41, Tryd.ntmps41
            go_wp2_with fail
            refine q1.mono ?_
            rintro e w2 ⟨rfl, k2⟩
            obtain ⟨B, hB⟩ : ∃ B, w2.heap.size = B := ⟨_, rfl⟩
            go_wp2
            obtain ⟨w3, hw3⟩ : ∃ w3, w2.alloc (.cells #[.int .i64 (kt : Int), .int .i64 KS, .int .i64 KR, .int .i64 KN] 103) = w3 := ⟨_, rfl⟩
            obtain ⟨D, hD⟩ : ∃ D, w3.heap.size = D := ⟨_, rfl⟩
            obtain ⟨w4, hw4⟩ : ∃ w4, w3.alloc (.cells #[.int .i64 0, .int .i64 0, .int .i64 0] 86) = w4 := ⟨_, rfl⟩
            rw [hw3]
            have k3 : Keeps (fun _ => False) w2 w3 := by rw [← hw3]; exact (Keeps.refl _ _).alloc _
            have hb3 : w3.heap[B]? = some (.cells #[.int .i64 (kt : Int), .int .i64 KS, .int .i64 KR, .int .i64 KN] 103 (0, 0)) := by rw [← hw3, ← hB]; exact alloc_new _ _
            have k4 : Keeps (fun _ => False) w3 w4 := by rw [← hw4]; exact (Keeps.refl _ _).alloc _
            have hd4 : w4.heap[D]? = some (.cells #[.int .i64 0, .int .i64 0, .int .i64 0] 86 (0, 0)) := by rw [← hw4, ← hD]; exact alloc_new _ _
            have H3 := ((H.old k1).old k2).old k3
            have H4 := H3.old k4
            have lk3 := (H3.map.drew).look_ok (P := Tryd.prog) 3 Tryd.underlying78 Tryd.underlying3 KS (z := Slt.zero) (zero_slot _)
            have hp3 := cell_of (v := .map (some p.m)) H3.cells 2 rfl
            have g3 := cell_of (v := .int .i64 KS) hb3 1 rfl
            have hb4 := k4.at hb3 (fun x => x)
            have lk := (H4.map.drew).look_ok (P := Tryd.prog) 3 Tryd.underlying78 Tryd.underlying3 KS (z := Slt.zero) (zero_slot _)
            rw [hx] at lk lk3
            have exr : (some (⟨xr, xn, xa⟩ : Slt)).getD Slt.zero = ⟨xr, xn, xa⟩ := rfl
            have exi : (some (⟨xr, xn, xa⟩ : Slt)).isSome = true := rfl
            rw [exr, exi] at lk lk3
            unfold Slt.enc at lk lk3
            have hp4 := cell_of (v := .map (some p.m)) H4.cells 2 rfl
            have g1 := cell_of (v := .int .i64 KS) hb4 1 rfl
            have f0 := free_of hd4 0
            have f1 := free_of hd4 1
            have f2 := free_of hd4 2
            have u0 := cell_of (v := .int .i64 0) hd4 0 rfl
            have u1 := cell_of (v := .int .i64 0) hd4 1 rfl
            have u2 := cell_of (v := .int .i64 0) hd4 2 rfl
            obtain ⟨w5, hw5⟩ : ∃ w5, ((w4.setCell ⟨D, 0, none⟩ (.int .i64 xr)).setCell ⟨D, 1, none⟩ (.int .i64 xn)).setCell ⟨D, 2, none⟩ (.int .i64 xa) = w5 := ⟨_, rfl⟩
            have hd5 := set3 hd4 (.int .i64 xr) (.int .i64 xn) (.int .i64 xa)
            rw [hw5] at hd5
            have k35 : Keeps (fun _ => False) w3 w5 := by
              rw [← hw5]
              exact ((k4.setCell _ _ (.inr (Nat.le_of_eq hD))).setCell _ _ (.inr (Nat.le_of_eq hD))).setCell _ _ (.inr (Nat.le_of_eq hD))
            have hb5 := k35.at hb3 (fun x => x)
            have H5 := (((H.old k1).old k2).old k3).old k35
            have hp5 := cell_of (v := .int .i64 C.T) H5.cells 0 rfl
            have y0 := cell_of (v := .int .i64 (kt : Int)) hb5 0 rfl
            have y2 := cell_of (v := .int .i64 KR) hb5 2 rfl
            have y3 := cell_of (v := .int .i64 KN) hb5 3 rfl
            have v0 := cell_of (v := .int .i64 xr) hd5 0 rfl
            have v1 := cell_of (v := .int .i64 xn) hd5 1 rfl
            have v2 := cell_of (v := .int .i64 xa) hd5 2 rfl
            obtain ⟨w6, hw6⟩ : ∃ w6, w5.drew.drew = w6 := ⟨_, rfl⟩
            have k56 : Keeps (fun _ => False) w5 w6 := by rw [← hw6]; exact ((Keeps.refl _ _).drew).drew
            have HW6 := Hid.of hw6
            clear hw6
            have K6 := (((k1.trans k2).trans k3).trans k35).trans k56
            have ha6 := ((((k2.trans k3).trans k35).trans k56).at ha1 (fun x => x))
            have hd6 := k56.at hd5 (fun x => x)
            have d0 := free_of ha6 0
            have d1 := free_of ha6 1
            have d2 := free_of ha6 2
            have z0 := cell_of (v := .int .i64 0) ha6 0 rfl
            have z1 := cell_of (v := .int .i64 0) ha6 1 rfl
            have z2 := cell_of (v := .int .i64 0) ha6 2 rfl
            have t0 := cell_of (v := .int .i64 xr) hd6 0 rfl
            have t1 := cell_of (v := .int .i64 xn) hd6 1 rfl
            have t2 := cell_of (v := .int .i64 xa) hd6 2 rfl
            obtain ⟨w7, hw7⟩ : ∃ w7, ((w6.setCell ⟨A, 0, none⟩ (.int .i64 0)).setCell ⟨A, 1, none⟩ (.int .i64 0)).setCell ⟨A, 2, none⟩ (.int .i64 0) = w7 := ⟨_, rfl⟩
            have ha7 := set3 ha6 (.int .i64 0) (.int .i64 0) (.int .i64 0)
            rw [hw7] at ha7
            have s0 := cell_of (v := .int .i64 0) ha7 0 rfl
            have s1 := cell_of (v := .int .i64 0) ha7 1 rfl
            have s2 := cell_of (v := .int .i64 0) ha7 2 rfl
            have HK7 : Hid (Keeps (fun _ => False) w w7) := Hid.of (by
              rw [← hw7]
              exact ((K6.setCell _ _ (.inr (Nat.le_of_eq hA))).setCell _ _ (.inr (Nat.le_of_eq hA))).setCell _ _ (.inr (Nat.le_of_eq hA)))
            clear k56 K6 ha6 hd6 ha7
            clear k1 k2 k3 hb3 H3 H4 k4 hd4 hb4 H5 hd5 k35 hb5 hw3 ha1 hw1
            go_region
            clear lk lk3 hp3 hp4 g1 g3 f0 f1 f2 u0 u1 u2 hw5
            go_wp2
            go_region
            clear y0 y2 y3 v0 v1 v2 hp5
            rw [HW6.out]
            go_wp2
            refine bodyPost_ret (v := .tuple #[.agg #[.int .i64 0, .int .i64 0, .int .i64 0], .int .i64 5]) ?_ ?_ ?_
            · rw [results_cell_tmp (p := 4) (u := 5) (ty := 86) rfl]
              go_simp
            · rfl
            · exact ⟨rfl, HK7.out⟩
        · rw [if_neg (fun h => h2 h.2.1)]
          show Calls _ _ _ _ fun e w' => e = .returned (.tuple #[Slt.zero.enc, .int .i64 5]) ∧ _
          have b1 : ((kt : Int) != (C.T : Int)) = false := by simp; omega
          have b2 : (xr == KR) = false := by simpa using h2
          clear h1 h2
          go_enter Tryd.func41, Tryd.ntmps41
          go_wp2_with fail
          refine q1.mono ?_
          rintro e w2 ⟨rfl, k2⟩
          obtain ⟨B, hB⟩ : ∃ B, w2.heap.size = B := ⟨_, rfl⟩
          go_wp2
          obtain ⟨w3, hw3⟩ : ∃ w3, w2.alloc (.cells #[.int .i64 (kt : Int), .int .i64 KS, .int .i64 KR, .int .i64 KN] 103) = w3 := ⟨_, rfl⟩
          obtain ⟨D, hD⟩ : ∃ D, w3.heap.size = D := ⟨_, rfl⟩
          obtain ⟨w4, hw4⟩ : ∃ w4, w3.alloc (.cells #[.int .i64 0, .int .i64 0, .int .i64 0] 86) = w4 := ⟨_, rfl⟩
          rw [hw3]
          have k3 : Keeps (fun _ => False) w2 w3 := by rw [← hw3]; exact (Keeps.refl _ _).alloc _
          have hb3 : w3.heap[B]? = some (.cells #[.int .i64 (kt : Int), .int .i64 KS, .int .i64 KR, .int .i64 KN] 103 (0, 0)) := by rw [← hw3, ← hB]; exact alloc_new _ _
          have k4 : Keeps (fun _ => False) w3 w4 := by rw [← hw4]; exact (Keeps.refl _ _).alloc _
          have hd4 : w4.heap[D]? = some (.cells #[.int .i64 0, .int .i64 0, .int .i64 0] 86 (0, 0)) := by rw [← hw4, ← hD]; exact alloc_new _ _
          have H3 := ((H.old k1).old k2).old k3
          have H4 := H3.old k4
          have lk3 := (H3.map.drew).look_ok (P := Tryd.prog) 3 Tryd.underlying78 Tryd.underlying3 KS (z := Slt.zero) (zero_slot _)
          have hp3 := cell_of (v := .map (some p.m)) H3.cells 2 rfl
          have g3 := cell_of (v := .int .i64 KS) hb3 1 rfl
          have hb4 := k4.at hb3 (fun x => x)
          have lk := (H4.map.drew).look_ok (P := Tryd.prog) 3 Tryd.underlying78 Tryd.underlying3 KS (z := Slt.zero) (zero_slot _)
          rw [hx] at lk lk3
          have exr : (some (⟨xr, xn, xa⟩ : Slt)).getD Slt.zero = ⟨xr, xn, xa⟩ := rfl
          have exi : (some (⟨xr, xn, xa⟩ : Slt)).isSome = true := rfl
          rw [exr, exi] at lk lk3
          unfold Slt.enc at lk lk3
          have hp4 := cell_of (v := .map (some p.m)) H4.cells 2 rfl
          have g1 := cell_of (v := .int .i64 KS) hb4 1 rfl
          have f0 := free_of hd4 0
          have f1 := free_of hd4 1
          have f2 := free_of hd4 2
          have u0 := cell_of (v := .int .i64 0) hd4 0 rfl
          have u1 := cell_of (v := .int .i64 0) hd4 1 rfl
          have u2 := cell_of (v := .int .i64 0) hd4 2 rfl
          obtain ⟨w5, hw5⟩ : ∃ w5, ((w4.setCell ⟨D, 0, none⟩ (.int .i64 xr)).setCell ⟨D, 1, none⟩ (.int .i64 xn)).setCell ⟨D, 2, none⟩ (.int .i64 xa) = w5 := ⟨_, rfl⟩
          have hd5 := set3 hd4 (.int .i64 xr) (.int .i64 xn) (.int .i64 xa)
          rw [hw5] at hd5
          have k35 : Keeps (fun _ => False) w3 w5 := by
            rw [← hw5]
            exact ((k4.setCell _ _ (.inr (Nat.le_of_eq hD))).setCell _ _ (.inr (Nat.le_of_eq hD))).setCell _ _ (.inr (Nat.le_of_eq hD))
          have hb5 := k35.at hb3 (fun x => x)
          have H5 := (((H.old k1).old k2).old k3).old k35
          have hp5 := cell_of (v := .int .i64 C.T) H5.cells 0 rfl
          have y0 := cell_of (v := .int .i64 (kt : Int)) hb5 0 rfl
          have y2 := cell_of (v := .int .i64 KR) hb5 2 rfl
          have y3 := cell_of (v := .int .i64 KN) hb5 3 rfl
          have v0 := cell_of (v := .int .i64 xr) hd5 0 rfl
          have v1 := cell_of (v := .int .i64 xn) hd5 1 rfl
          have v2 := cell_of (v := .int .i64 xa) hd5 2 rfl
          obtain ⟨w6, hw6⟩ : ∃ w6, w5.drew.drew = w6 := ⟨_, rfl⟩
          have k56 : Keeps (fun _ => False) w5 w6 := by rw [← hw6]; exact ((Keeps.refl _ _).drew).drew
          have HW6 := Hid.of hw6
          clear hw6
          have K6 := (((k1.trans k2).trans k3).trans k35).trans k56
          have ha6 := ((((k2.trans k3).trans k35).trans k56).at ha1 (fun x => x))
          have hd6 := k56.at hd5 (fun x => x)
          have d0 := free_of ha6 0
          have d1 := free_of ha6 1
          have d2 := free_of ha6 2
          have z0 := cell_of (v := .int .i64 0) ha6 0 rfl
          have z1 := cell_of (v := .int .i64 0) ha6 1 rfl
          have z2 := cell_of (v := .int .i64 0) ha6 2 rfl
          have t0 := cell_of (v := .int .i64 xr) hd6 0 rfl
          have t1 := cell_of (v := .int .i64 xn) hd6 1 rfl
          have t2 := cell_of (v := .int .i64 xa) hd6 2 rfl
          obtain ⟨w7, hw7⟩ : ∃ w7, ((w6.setCell ⟨A, 0, none⟩ (.int .i64 0)).setCell ⟨A, 1, none⟩ (.int .i64 0)).setCell ⟨A, 2, none⟩ (.int .i64 0) = w7 := ⟨_, rfl⟩
          have ha7 := set3 ha6 (.int .i64 0) (.int .i64 0) (.int .i64 0)
          rw [hw7] at ha7
          have s0 := cell_of (v := .int .i64 0) ha7 0 rfl
          have s1 := cell_of (v := .int .i64 0) ha7 1 rfl
          have s2 := cell_of (v := .int .i64 0) ha7 2 rfl
          have HK7 : Hid (Keeps (fun _ => False) w w7) := Hid.of (by
            rw [← hw7]
            exact ((K6.setCell _ _ (.inr (Nat.le_of_eq hA))).setCell _ _ (.inr (Nat.le_of_eq hA))).setCell _ _ (.inr (Nat.le_of_eq hA)))
          clear k56 K6 ha6 hd6 ha7
          clear k1 k2 k3 hb3 H3 H4 k4 hd4 hb4 H5 hd5 k35 hb5 hw3 ha1 hw1
          go_region
          clear lk lk3 hp3 hp4 g1 g3 f0 f1 f2 u0 u1 u2 hw5
          go_wp2
          go_region
          clear y0 y2 y3 v0 v1 v2 hp5
          rw [HW6.out]
          go_wp2
          refine bodyPost_ret (v := .tuple #[.agg #[.int .i64 0, .int .i64 0, .int .i64 0], .int .i64 5]) ?_ ?_ ?_
          · rw [results_cell_tmp (p := 4) (u := 5) (ty := 86) rfl]
            go_simp
          · rfl
          · exact ⟨rfl, HK7.out⟩
      · rw [if_neg (fun h => h1 h.1)]
        show Calls _ _ _ _ fun e w' => e = .returned (.tuple #[Slt.zero.enc, .int .i64 5]) ∧ _
        have b1 : ((kt : Int) != (C.T : Int)) = true := by simp; omega
        clear h1
        go_enter Tryd.func41, Tryd.ntmps41
        go_wp2_with fail
        refine q1.mono ?_
        rintro e w2 ⟨rfl, k2⟩
        obtain ⟨B, hB⟩ : ∃ B, w2.heap.size = B := ⟨_, rfl⟩
        go_wp2
        obtain ⟨w3, hw3⟩ : ∃ w3, w2.alloc (.cells #[.int .i64 (kt : Int), .int .i64 KS, .int .i64 KR, .int .i64 KN] 103) = w3 := ⟨_, rfl⟩
        obtain ⟨D, hD⟩ : ∃ D, w3.heap.size = D := ⟨_, rfl⟩
        obtain ⟨w4, hw4⟩ : ∃ w4, w3.alloc (.cells #[.int .i64 0, .int .i64 0, .int .i64 0] 86) = w4 := ⟨_, rfl⟩
        rw [hw3]
        have k3 : Keeps (fun _ => False) w2 w3 := by rw [← hw3]; exact (Keeps.refl _ _).alloc _
        have hb3 : w3.heap[B]? = some (.cells #[.int .i64 (kt : Int), .int .i64 KS, .int .i64 KR, .int .i64 KN] 103 (0, 0)) := by rw [← hw3, ← hB]; exact alloc_new _ _
        have k4 : Keeps (fun _ => False) w3 w4 := by rw [← hw4]; exact (Keeps.refl _ _).alloc _
        have hd4 : w4.heap[D]? = some (.cells #[.int .i64 0, .int .i64 0, .int .i64 0] 86 (0, 0)) := by rw [← hw4, ← hD]; exact alloc_new _ _
        have H3 := ((H.old k1).old k2).old k3
        have H4 := H3.old k4
        have lk3 := (H3.map.drew).look_ok (P := Tryd.prog) 3 Tryd.underlying78 Tryd.underlying3 KS (z := Slt.zero) (zero_slot _)
        have hp3 := cell_of (v := .map (some p.m)) H3.cells 2 rfl
        have g3 := cell_of (v := .int .i64 KS) hb3 1 rfl
        have hb4 := k4.at hb3 (fun x => x)
        have lk := (H4.map.drew).look_ok (P := Tryd.prog) 3 Tryd.underlying78 Tryd.underlying3 KS (z := Slt.zero) (zero_slot _)
        rw [hx] at lk lk3
        have exr : (some (⟨xr, xn, xa⟩ : Slt)).getD Slt.zero = ⟨xr, xn, xa⟩ := rfl
        have exi : (some (⟨xr, xn, xa⟩ : Slt)).isSome = true := rfl
        rw [exr, exi] at lk lk3
        unfold Slt.enc at lk lk3
        have hp4 := cell_of (v := .map (some p.m)) H4.cells 2 rfl
        have g1 := cell_of (v := .int .i64 KS) hb4 1 rfl
        have f0 := free_of hd4 0
        have f1 := free_of hd4 1
        have f2 := free_of hd4 2
        have u0 := cell_of (v := .int .i64 0) hd4 0 rfl
        have u1 := cell_of (v := .int .i64 0) hd4 1 rfl
        have u2 := cell_of (v := .int .i64 0) hd4 2 rfl
        obtain ⟨w5, hw5⟩ : ∃ w5, ((w4.setCell ⟨D, 0, none⟩ (.int .i64 xr)).setCell ⟨D, 1, none⟩ (.int .i64 xn)).setCell ⟨D, 2, none⟩ (.int .i64 xa) = w5 := ⟨_, rfl⟩
        have hd5 := set3 hd4 (.int .i64 xr) (.int .i64 xn) (.int .i64 xa)
        rw [hw5] at hd5
        have k35 : Keeps (fun _ => False) w3 w5 := by
          rw [← hw5]
          exact ((k4.setCell _ _ (.inr (Nat.le_of_eq hD))).setCell _ _ (.inr (Nat.le_of_eq hD))).setCell _ _ (.inr (Nat.le_of_eq hD))
        have hb5 := k35.at hb3 (fun x => x)
        have H5 := (((H.old k1).old k2).old k3).old k35
        have hp5 := cell_of (v := .int .i64 C.T) H5.cells 0 rfl
        have y0 := cell_of (v := .int .i64 (kt : Int)) hb5 0 rfl
        have y2 := cell_of (v := .int .i64 KR) hb5 2 rfl
        have y3 := cell_of (v := .int .i64 KN) hb5 3 rfl
        have v0 := cell_of (v := .int .i64 xr) hd5 0 rfl
        have v1 := cell_of (v := .int .i64 xn) hd5 1 rfl
        have v2 := cell_of (v := .int .i64 xa) hd5 2 rfl
        obtain ⟨w6, hw6⟩ : ∃ w6, w5.drew.drew = w6 := ⟨_, rfl⟩
        have k56 : Keeps (fun _ => False) w5 w6 := by rw [← hw6]; exact ((Keeps.refl _ _).drew).drew
        have HW6 := Hid.of hw6
        clear hw6
        have K6 := (((k1.trans k2).trans k3).trans k35).trans k56
        have ha6 := ((((k2.trans k3).trans k35).trans k56).at ha1 (fun x => x))
        have hd6 := k56.at hd5 (fun x => x)
        have d0 := free_of ha6 0
        have d1 := free_of ha6 1
        have d2 := free_of ha6 2
        have z0 := cell_of (v := .int .i64 0) ha6 0 rfl
        have z1 := cell_of (v := .int .i64 0) ha6 1 rfl
        have z2 := cell_of (v := .int .i64 0) ha6 2 rfl
        have t0 := cell_of (v := .int .i64 xr) hd6 0 rfl
        have t1 := cell_of (v := .int .i64 xn) hd6 1 rfl
        have t2 := cell_of (v := .int .i64 xa) hd6 2 rfl
        obtain ⟨w7, hw7⟩ : ∃ w7, ((w6.setCell ⟨A, 0, none⟩ (.int .i64 0)).setCell ⟨A, 1, none⟩ (.int .i64 0)).setCell ⟨A, 2, none⟩ (.int .i64 0) = w7 := ⟨_, rfl⟩
        have ha7 := set3 ha6 (.int .i64 0) (.int .i64 0) (.int .i64 0)
        rw [hw7] at ha7
        have s0 := cell_of (v := .int .i64 0) ha7 0 rfl
        have s1 := cell_of (v := .int .i64 0) ha7 1 rfl
        have s2 := cell_of (v := .int .i64 0) ha7 2 rfl
        have HK7 : Hid (Keeps (fun _ => False) w w7) := Hid.of (by
          rw [← hw7]
          exact ((K6.setCell _ _ (.inr (Nat.le_of_eq hA))).setCell _ _ (.inr (Nat.le_of_eq hA))).setCell _ _ (.inr (Nat.le_of_eq hA)))
        clear k56 K6 ha6 hd6 ha7
        clear k1 k2 k3 hb3 H3 H4 k4 hd4 hb4 H5 hd5 k35 hb5 hw3 ha1 hw1
        go_region
        clear lk lk3 hp3 hp4 g1 g3 f0 f1 f2 u0 u1 u2 hw5
        go_wp2
        go_region
        clear y0 y2 y3 v0 v1 v2 hp5
        rw [HW6.out]
        go_wp2
        refine bodyPost_ret (v := .tuple #[.agg #[.int .i64 0, .int .i64 0, .int .i64 0], .int .i64 5]) ?_ ?_ ?_
        · rw [results_cell_tmp (p := 4) (u := 5) (ty := 86) rfl]
          go_simp
        · rfl
        · exact ⟨rfl, HK7.out⟩
end Ca
end Go.Proofs.YtagmkkddjdlncaaDoor
