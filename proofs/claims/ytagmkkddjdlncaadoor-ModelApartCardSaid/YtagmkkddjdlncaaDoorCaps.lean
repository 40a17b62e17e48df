/- The caps package's walks: New, find, Find, good.may, Serial. | The caps package's walks: good.may, Serial, Find, put, Grant. | The caps package's walks: put, on either shelf (printed by gen_caput.py). | The caps package's walks: Grant, Restrict. | The caps package's walk: Revoke. | The caps package's walk: Copy; maps.Clone at its map. -/
import Derived.Test.YtagmkkddjdlncaaDoorShel
import Derived.Test.YtagmkkddjdlncaaDoorHan
import Derived.Test.YtagmkkddjdlncaaDoorRows
import Derived.Shelf.SlMaps.Clone
import Derived.WalkSpells
import Derived.WalkLawsBesides
set_option linter.unusedVariables false
set_option linter.unusedSimpArgs false
/-! The caps package's walks: New, find, Find, good.may, Serial. -/
namespace Go.Proofs.YtagmkkddjdlncaaDoor
open Go.RowKit Go.ChangeMaps
namespace Ca
/-- A slot: rights, serial, address. -/
structure Slt where
  r : Int
  n : Int
  a : Int
def Slt.enc (x : Slt) : Value := .agg #[.int .i64 x.r, .int .i64 x.n, .int .i64 x.a]
def Slt.zero : Slt := ⟨0, 0, 0⟩
/-- What a table of handles knows. -/
structure Cp where
  T : Nat
  N : Nat
  E : List (Int × Slt)
  A : List Bool
  B : List Bool
/-- Where a table lies. -/
structure Pl where
  c : Nat
  m : Nat
  s : Nat
  u : Nat
  v : Value
  x : Value
/-- What a table may turn. -/
def Fp (p : Pl) (i : Nat) : Prop := i = p.c ∨ i = p.m ∨ Sh.Fp p.s p.v i ∨ Sh.Fp p.u p.x i
structure At (w : World) (p : Pl) (C : Cp) : Prop where
  cells : w.heap[p.c]? = some (.cells #[.int .i64 C.T, .int .i64 C.N, .map (some p.m), .pointer (some ⟨p.s, 0, none⟩), .pointer (some ⟨p.u, 0, none⟩)] 81 (0, 0))
  map : EMap Slt.enc w p.m C.E
  sa : Sh.At w p.s p.v C.A
  sb : Sh.At w p.u p.x C.B
  cm : p.c ≠ p.m
  cs : ¬ Sh.Fp p.s p.v p.c
  cu : ¬ Sh.Fp p.u p.x p.c
  ms : ¬ Sh.Fp p.s p.v p.m
  mu : ¬ Sh.Fp p.u p.x p.m
  su : ∀ i, Sh.Fp p.s p.v i → ¬ Sh.Fp p.u p.x i
  off : ¬ Fp p 0
theorem At.keep {F : Nat → Prop} {w w' : World} {p : Pl} {C : Cp} (h : At w p C) (hk : Keeps F w w') (hf : ∀ x, Fp p x → ¬ F x) : At w' p C :=
  { h with
    cells := hk.at h.cells (hf _ (.inl rfl))
    map := h.map.keep hk (hf _ (.inr (.inl rfl)))
    sa := h.sa.keep hk (fun x hx => hf x (.inr (.inr (.inl hx))))
    sb := h.sb.keep hk (fun x hx => hf x (.inr (.inr (.inr hx)))) }
theorem At.old {w w' : World} {p : Pl} {C : Cp} (h : At w p C) (hk : Keeps (fun _ => False) w w') : At w' p C := h.keep hk (fun _ _ x => x)
theorem At.lt {w : World} {p : Pl} {C : Cp} (h : At w p C) {x : Nat} (hx : Fp p x) : x < w.heap.size := by
  rcases hx with rfl | rfl | hx | hx
  · exact lt_of h.cells
  · exact h.map.lt
  · exact h.sa.lt hx
  · exact h.sb.lt hx
def new (T N : Nat) : Cp := ⟨T, N, [], List.replicate 4096 true, List.replicate 64 true⟩
def NewR (w : World) (T N : Nat) (e : Ending) (w' : World) : Prop := ∃ p : Pl, e = .returned (.tuple #[.pointer (some ⟨p.c, 0, none⟩), .int .i64 0]) ∧ At w' p (new T N) ∧ (∀ x, Fp p x → w.heap.size ≤ x) ∧ Keeps (fun _ => False) w w'
set_option maxRecDepth 100000 in
set_option maxHeartbeats 1000000 in
theorem new_any (w : World) (T N : Nat) (hT : T < 8) (h1 : 1 ≤ N) (h2 : N ≤ 17592186044416) (hg : 0 < w.heap.size) :
    Calls Tryd.prog 29 #[.int .i64 T, .int .i64 N] w (NewR w T N) := by
  have qa := Sh.new_any w 4096 (by omega)
  have qb := fun w => Sh.new_any w 64 (by omega)
  have hmm := @run_makeMap Tryd.prog
  have hTi : (T : Int) < 8 := by omega
  have d1 : decide (8 ≤ T) = false := by simp; omega
  have d2 : decide (N < 1) = false := by simp; omega
  have d3 : decide (17592186044416 < N) = false := by simp; omega
  go_enter Tryd.func29, Tryd.ntmps29
  go_wp2_with fail
  refine qa.mono ?_
  rintro e w1 ⟨s, v, rfl, a1, f1, k1⟩
  have q1 := qb w1
  clear qa qb
  go_wp2_with fail
  refine q1.mono ?_
  rintro e w2 ⟨u, x, rfl, b2, f2, k2⟩
  clear q1
  obtain ⟨m, hm⟩ : ∃ m, w2.heap.size = m := ⟨_, rfl⟩
  obtain ⟨w3, hw3⟩ : ∃ w3, w2.alloc (.map #[] 0) = w3 := ⟨_, rfl⟩
  obtain ⟨c, hc⟩ : ∃ c, w3.heap.size = c := ⟨_, rfl⟩
  obtain ⟨w4, hw4⟩ : ∃ w4, w3.alloc (.cells #[.int .i64 T, .int .i64 N, .map (some m), .pointer (some ⟨s, 0, none⟩), .pointer (some ⟨u, 0, none⟩)] 81) = w4 := ⟨_, rfl⟩
  have k3 : Keeps (fun _ => False) w2 w3 := by rw [← hw3]; exact (Keeps.refl _ _).alloc _
  have k4 : Keeps (fun _ => False) w3 w4 := by rw [← hw4]; exact (Keeps.refl _ _).alloc _
  have m3 : EMap Slt.enc w3 m [] := by rw [← hw3, ← hm]; exact EMap.new _ _
  have c4 : w4.heap[c]? = some (.cells #[.int .i64 T, .int .i64 N, .map (some m), .pointer (some ⟨s, 0, none⟩), .pointer (some ⟨u, 0, none⟩)] 81 (0, 0)) := by rw [← hw4, ← hc]; exact alloc_new _ _
  have HF : Hid (NewR w T N (.returned (.tuple #[.pointer (some ⟨c, 0, none⟩), .int .i64 0])) w4) := Hid.of (by
    have z1 := k1.size
    have z2 := k2.size
    have z3 := k3.size
    have hmc : m < c := by have := m3.lt; omega
    have la : ∀ i, Sh.Fp s v i → w.heap.size ≤ i ∧ i < w1.heap.size := fun i hi => ⟨f1 i hi, a1.lt hi⟩
    have lb : ∀ i, Sh.Fp u x i → w1.heap.size ≤ i ∧ i < w2.heap.size := fun i hi => ⟨f2 i hi, b2.lt hi⟩
    refine ⟨⟨c, m, s, u, v, x⟩, rfl, ⟨c4, m3.keep k4 (fun x => x), ((a1.old k2).old k3).old k4, (b2.old k3).old k4, ?_, ?_, ?_, ?_, ?_, ?_, ?_⟩, ?_, ((k1.trans k2).trans k3).trans k4⟩
    · show c ≠ m; omega
    · intro h; have h' := la _ h; simp only at h'; omega
    · intro h; have h' := lb _ h; simp only at h'; omega
    · intro h; have h' := la _ h; simp only at h'; omega
    · intro h; have h' := lb _ h; simp only at h'; omega
    · intro i hi hj; have h1 := la i hi; have h2 := lb i hj; omega
    · rintro (h | h | h | h)
      · simp only at h; omega
      · simp only at h; omega
      · have := la _ h; omega
      · have := lb _ h; omega
    · rintro i (h | h | h | h)
      · simp only at h; omega
      · simp only at h; omega
      · have := la _ h; omega
      · have := lb _ h; omega)
  clear a1 f1 k1 b2 f2 k2 k3 k4 m3 c4 hg
  go_wp2
  go_ret2
  exact HF.out
/-- Whose handle it is. -/
def fnd (C : Cp) (h : Nat) : Option Slt := if Han.umay h then (match eget C.E (Han.us h) with
  | some x => if Han.ut h = C.T ∧ x.r = Han.ur h ∧ x.n = Han.un h then some x else none
  | none => none) else none
def fndV (C : Cp) (h : Nat) : Value := match fnd C h with
  | some x => .tuple #[x.enc, .int .i64 0]
  | none => .tuple #[Slt.zero.enc, .int .i64 5]
theorem zero_slot (w : World) : (zeroValue 86).run Tryd.prog w = .ok Slt.zero.enc w := by kernel_rfl
theorem set3 {w : World} {b : Nat} {x0 x1 x2 : Value} {t : TypeId} (h : w.heap[b]? = some (.cells #[x0, x1, x2] t (0, 0))) (y0 y1 y2 : Value) :
    (((w.setCell ⟨b, 0, none⟩ y0).setCell ⟨b, 1, none⟩ y1).setCell ⟨b, 2, none⟩ y2).heap[b]? = some (.cells #[y0, y1, y2] t (0, 0)) := by
  have h0 := set_of h 0 y0
  have h1 := set_of h0 1 y1
  exact set_of h1 2 y2
set_option maxRecDepth 100000 in
set_option maxHeartbeats 1000000 in
theorem find_any (w : World) (p : Pl) (C : Cp) (h : Nat) (H : At w p C) (hh : h < 18446744073709551616) :
    Calls Tryd.prog 41 #[.pointer (some ⟨p.c, 0, none⟩), .int .u64 h] w fun e w' => e = .returned (fndV C h) ∧ Keeps (fun _ => False) w w' := by
  have q := fun w => Han.unpack_any w h hh
  obtain ⟨A, hA⟩ : ∃ A, w.heap.size = A := ⟨_, rfl⟩
  obtain ⟨w1, hw1⟩ : ∃ w1, w.alloc (.cells #[.int .i64 0, .int .i64 0, .int .i64 0] 86) = w1 := ⟨_, rfl⟩
  have k1 : Keeps (fun _ => False) w w1 := by rw [← hw1]; exact (Keeps.refl _ _).alloc _
  have ha1 : w1.heap[A]? = some (.cells #[.int .i64 0, .int .i64 0, .int .i64 0] 86 (0, 0)) := by rw [← hw1, ← hA]; exact alloc_new _ _
  have q1 := q w1
  clear q
  unfold Han.upV at q1
  cases hm : Han.umay h
  · have hF : fndV C h = .tuple #[Slt.zero.enc, .int .i64 5] := by unfold fndV fnd; rw [hm]; rfl
    rw [hm] at q1
    simp only [Bool.false_eq_true, if_false] at q1
    unfold Han.key at q1
    rw [hF]
    clear hF hm
    go_enter Tryd.func41, Tryd.ntmps41
    go_wp2_with fail
    refine q1.mono ?_
    rintro e w2 ⟨rfl, k2⟩
    obtain ⟨B, hB⟩ : ∃ B, w2.heap.size = B := ⟨_, rfl⟩
    go_wp2
    obtain ⟨w3, hw3⟩ : ∃ w3, w2.alloc (.cells #[.int .i64 0, .int .i64 0, .int .i64 0, .int .i64 0] 103) = w3 := ⟨_, rfl⟩
    obtain ⟨D, hD⟩ : ∃ D, w3.heap.size = D := ⟨_, rfl⟩
    obtain ⟨w4, hw4⟩ : ∃ w4, w3.alloc (.cells #[.int .i64 0, .int .i64 0, .int .i64 0] 86) = w4 := ⟨_, rfl⟩
    rw [hw3]
    have k3 : Keeps (fun _ => False) w2 w3 := by rw [← hw3]; exact (Keeps.refl _ _).alloc _
    have hb3 : w3.heap[B]? = some (.cells #[.int .i64 0, .int .i64 0, .int .i64 0, .int .i64 0] 103 (0, 0)) := by rw [← hw3, ← hB]; exact alloc_new _ _
    have k4 : Keeps (fun _ => False) w3 w4 := by rw [← hw4]; exact (Keeps.refl _ _).alloc _
    have hd4 : w4.heap[D]? = some (.cells #[.int .i64 0, .int .i64 0, .int .i64 0] 86 (0, 0)) := by rw [← hw4, ← hD]; exact alloc_new _ _
    have H3 := ((H.old k1).old k2).old k3
    have H4 := H3.old k4
    have lk3 := (H3.map.drew).look_ok (P := Tryd.prog) 3 Tryd.underlying78 Tryd.underlying3 (0 : Int) (z := Slt.zero) (zero_slot _)
    have hp3 := cell_of (v := .map (some p.m)) H3.cells 2 rfl
    have g3 := cell_of (v := .int .i64 0) hb3 1 rfl
    have hb4 := k4.at hb3 (fun x => x)
    have lk := (H4.map.drew).look_ok (P := Tryd.prog) 3 Tryd.underlying78 Tryd.underlying3 (0 : Int) (z := Slt.zero) (zero_slot _)
    generalize (eget C.E 0).getD Slt.zero = x at lk lk3
    obtain ⟨xr, xn, xa⟩ := x
    generalize (eget C.E 0).isSome = there at lk lk3
    unfold Slt.enc at lk lk3
    have hp4 := cell_of (v := .map (some p.m)) H4.cells 2 rfl
    have g1 := cell_of (v := .int .i64 0) hb4 1 rfl
    have f0 := free_of hd4 0
    have f1 := free_of hd4 1
    have f2 := free_of hd4 2
    have u0 := cell_of (v := .int .i64 0) hd4 0 rfl
    have u1 := cell_of (v := .int .i64 0) hd4 1 rfl
    have u2 := cell_of (v := .int .i64 0) hd4 2 rfl
    obtain ⟨w5, hw5⟩ : ∃ w5, ((w4.setCell ⟨D, 0, none⟩ (.int .i64 xr)).setCell ⟨D, 1, none⟩ (.int .i64 xn)).setCell ⟨D, 2, none⟩ (.int .i64 xa) = w5 := ⟨_, rfl⟩
    have hd5 := set3 hd4 (.int .i64 xr) (.int .i64 xn) (.int .i64 xa)
    rw [hw5] at hd5
    have k35 : Keeps (fun _ => False) w3 w5 := by
      rw [← hw5]
      exact ((k4.setCell _ _ (.inr (Nat.le_of_eq hD))).setCell _ _ (.inr (Nat.le_of_eq hD))).setCell _ _ (.inr (Nat.le_of_eq hD))
    have hb5 := k35.at hb3 (fun x => x)
    have H5 := (((H.old k1).old k2).old k3).old k35
    have hp5 := cell_of (v := .int .i64 C.T) H5.cells 0 rfl
    have y0 := cell_of (v := .int .i64 0) hb5 0 rfl
    have y2 := cell_of (v := .int .i64 0) hb5 2 rfl
    have y3 := cell_of (v := .int .i64 0) hb5 3 rfl
    have v0 := cell_of (v := .int .i64 xr) hd5 0 rfl
    have v1 := cell_of (v := .int .i64 xn) hd5 1 rfl
    have v2 := cell_of (v := .int .i64 xa) hd5 2 rfl
    obtain ⟨w6, hw6⟩ : ∃ w6, w5.drew.drew = w6 := ⟨_, rfl⟩
    have k56 : Keeps (fun _ => False) w5 w6 := by rw [← hw6]; exact ((Keeps.refl _ _).drew).drew
    have HW6 := Hid.of hw6
    clear hw6
    have K6 := (((k1.trans k2).trans k3).trans k35).trans k56
    have ha6 := ((((k2.trans k3).trans k35).trans k56).at ha1 (fun x => x))
    have hd6 := k56.at hd5 (fun x => x)
    have d0 := free_of ha6 0
    have d1 := free_of ha6 1
    have d2 := free_of ha6 2
    have z0 := cell_of (v := .int .i64 0) ha6 0 rfl
    have z1 := cell_of (v := .int .i64 0) ha6 1 rfl
    have z2 := cell_of (v := .int .i64 0) ha6 2 rfl
    have t0 := cell_of (v := .int .i64 xr) hd6 0 rfl
    have t1 := cell_of (v := .int .i64 xn) hd6 1 rfl
    have t2 := cell_of (v := .int .i64 xa) hd6 2 rfl
    obtain ⟨w7, hw7⟩ : ∃ w7, ((w6.setCell ⟨A, 0, none⟩ (.int .i64 0)).setCell ⟨A, 1, none⟩ (.int .i64 0)).setCell ⟨A, 2, none⟩ (.int .i64 0) = w7 := ⟨_, rfl⟩
    have ha7 := set3 ha6 (.int .i64 0) (.int .i64 0) (.int .i64 0)
    rw [hw7] at ha7
    have s0 := cell_of (v := .int .i64 0) ha7 0 rfl
    have s1 := cell_of (v := .int .i64 0) ha7 1 rfl
    have s2 := cell_of (v := .int .i64 0) ha7 2 rfl
    have HK7 : Hid (Keeps (fun _ => False) w w7) := Hid.of (by
      rw [← hw7]
      exact ((K6.setCell _ _ (.inr (Nat.le_of_eq hA))).setCell _ _ (.inr (Nat.le_of_eq hA))).setCell _ _ (.inr (Nat.le_of_eq hA)))
    clear k56 K6 ha6 hd6 ha7
    clear k1 k2 k3 hb3 H3 H4 k4 hd4 hb4 H5 hd5 k35 hb5 hw3 ha1 hw1
    go_region
    clear lk lk3 hp3 hp4 g1 g3 f0 f1 f2 u0 u1 u2 hw5
    go_wp2
    go_region
    clear y0 y2 y3 v0 v1 v2 hp5
    rw [HW6.out]
    go_wp2
    refine bodyPost_ret (v := .tuple #[.agg #[.int .i64 0, .int .i64 0, .int .i64 0], .int .i64 5]) ?_ ?_ ?_
    · rw [results_cell_tmp (p := 4) (u := 5) (ty := 86) rfl]
      go_simp
    · rfl
    · exact ⟨rfl, HK7.out⟩
  · have hF : fndV C h = match (match eget C.E (Han.us h) with
        | some x => if Han.ut h = C.T ∧ x.r = Han.ur h ∧ x.n = Han.un h then some x else none
        | none => none) with
        | some x => .tuple #[x.enc, .int .i64 0]
        | none => .tuple #[Slt.zero.enc, .int .i64 5] := by unfold fndV fnd; rw [hm]; rfl
    rw [hm] at q1
    simp only [if_true] at q1
    unfold Han.key at q1
    rw [hF]
    clear hF hm
    obtain ⟨KS, hKS⟩ : ∃ z : Int, ((Han.us h : Nat) : Int) = z := ⟨_, rfl⟩
    obtain ⟨KR, hKR⟩ : ∃ z : Int, ((Han.ur h : Nat) : Int) = z := ⟨_, rfl⟩
    obtain ⟨KN, hKN⟩ : ∃ z : Int, ((Han.un h : Nat) : Int) = z := ⟨_, rfl⟩
    rw [hKS, hKR, hKN] at q1
    rw [hKS, hKR, hKN]
    obtain ⟨kt, hkt⟩ : ∃ z : Nat, Han.ut h = z := ⟨_, rfl⟩
    rw [hkt] at q1
    rw [hkt]
    clear hKS hKR hKN hkt
    cases hx : eget C.E KS with
    | none =>
      show Calls _ _ _ _ fun e w' => e = .returned (.tuple #[Slt.zero.enc, .int .i64 5]) ∧ _
      go_enter Tryd.func41, Tryd.ntmps41
      go_wp2_with fail
      refine q1.mono ?_
      rintro e w2 ⟨rfl, k2⟩
      obtain ⟨B, hB⟩ : ∃ B, w2.heap.size = B := ⟨_, rfl⟩
      go_wp2
      obtain ⟨w3, hw3⟩ : ∃ w3, w2.alloc (.cells #[.int .i64 (kt : Int), .int .i64 KS, .int .i64 KR, .int .i64 KN] 103) = w3 := ⟨_, rfl⟩
      obtain ⟨D, hD⟩ : ∃ D, w3.heap.size = D := ⟨_, rfl⟩
      obtain ⟨w4, hw4⟩ : ∃ w4, w3.alloc (.cells #[.int .i64 0, .int .i64 0, .int .i64 0] 86) = w4 := ⟨_, rfl⟩
      rw [hw3]
      have k3 : Keeps (fun _ => False) w2 w3 := by rw [← hw3]; exact (Keeps.refl _ _).alloc _
      have hb3 : w3.heap[B]? = some (.cells #[.int .i64 (kt : Int), .int .i64 KS, .int .i64 KR, .int .i64 KN] 103 (0, 0)) := by rw [← hw3, ← hB]; exact alloc_new _ _
      have k4 : Keeps (fun _ => False) w3 w4 := by rw [← hw4]; exact (Keeps.refl _ _).alloc _
      have hd4 : w4.heap[D]? = some (.cells #[.int .i64 0, .int .i64 0, .int .i64 0] 86 (0, 0)) := by rw [← hw4, ← hD]; exact alloc_new _ _
      have H3 := ((H.old k1).old k2).old k3
      have H4 := H3.old k4
      have lk3 := (H3.map.drew).look_ok (P := Tryd.prog) 3 Tryd.underlying78 Tryd.underlying3 KS (z := Slt.zero) (zero_slot _)
      have hp3 := cell_of (v := .map (some p.m)) H3.cells 2 rfl
      have g3 := cell_of (v := .int .i64 KS) hb3 1 rfl
      have hb4 := k4.at hb3 (fun x => x)
      have lk := (H4.map.drew).look_ok (P := Tryd.prog) 3 Tryd.underlying78 Tryd.underlying3 KS (z := Slt.zero) (zero_slot _)
      rw [hx] at lk lk3
      have exr : (none : Option Slt).getD Slt.zero = ⟨0, 0, 0⟩ := rfl
      have exi : (none : Option Slt).isSome = false := rfl
      rw [exr, exi] at lk lk3
      unfold Slt.enc at lk lk3
      have hp4 := cell_of (v := .map (some p.m)) H4.cells 2 rfl
      have g1 := cell_of (v := .int .i64 KS) hb4 1 rfl
      have f0 := free_of hd4 0
      have f1 := free_of hd4 1
      have f2 := free_of hd4 2
      have u0 := cell_of (v := .int .i64 0) hd4 0 rfl
      have u1 := cell_of (v := .int .i64 0) hd4 1 rfl
      have u2 := cell_of (v := .int .i64 0) hd4 2 rfl
      obtain ⟨w5, hw5⟩ : ∃ w5, ((w4.setCell ⟨D, 0, none⟩ (.int .i64 0)).setCell ⟨D, 1, none⟩ (.int .i64 0)).setCell ⟨D, 2, none⟩ (.int .i64 0) = w5 := ⟨_, rfl⟩
      have hd5 := set3 hd4 (.int .i64 0) (.int .i64 0) (.int .i64 0)
      rw [hw5] at hd5
      have k35 : Keeps (fun _ => False) w3 w5 := by
        rw [← hw5]
        exact ((k4.setCell _ _ (.inr (Nat.le_of_eq hD))).setCell _ _ (.inr (Nat.le_of_eq hD))).setCell _ _ (.inr (Nat.le_of_eq hD))
      have hb5 := k35.at hb3 (fun x => x)
      have H5 := (((H.old k1).old k2).old k3).old k35
      have hp5 := cell_of (v := .int .i64 C.T) H5.cells 0 rfl
      have y0 := cell_of (v := .int .i64 (kt : Int)) hb5 0 rfl
      have y2 := cell_of (v := .int .i64 KR) hb5 2 rfl
      have y3 := cell_of (v := .int .i64 KN) hb5 3 rfl
      have v0 := cell_of (v := .int .i64 0) hd5 0 rfl
      have v1 := cell_of (v := .int .i64 0) hd5 1 rfl
      have v2 := cell_of (v := .int .i64 0) hd5 2 rfl
      obtain ⟨w6, hw6⟩ : ∃ w6, w5.drew.drew = w6 := ⟨_, rfl⟩
      have k56 : Keeps (fun _ => False) w5 w6 := by rw [← hw6]; exact ((Keeps.refl _ _).drew).drew
      have HW6 := Hid.of hw6
      clear hw6
      have K6 := (((k1.trans k2).trans k3).trans k35).trans k56
      have ha6 := ((((k2.trans k3).trans k35).trans k56).at ha1 (fun x => x))
      have hd6 := k56.at hd5 (fun x => x)
      have d0 := free_of ha6 0
      have d1 := free_of ha6 1
      have d2 := free_of ha6 2
      have z0 := cell_of (v := .int .i64 0) ha6 0 rfl
      have z1 := cell_of (v := .int .i64 0) ha6 1 rfl
      have z2 := cell_of (v := .int .i64 0) ha6 2 rfl
      have t0 := cell_of (v := .int .i64 0) hd6 0 rfl
      have t1 := cell_of (v := .int .i64 0) hd6 1 rfl
      have t2 := cell_of (v := .int .i64 0) hd6 2 rfl
      obtain ⟨w7, hw7⟩ : ∃ w7, ((w6.setCell ⟨A, 0, none⟩ (.int .i64 0)).setCell ⟨A, 1, none⟩ (.int .i64 0)).setCell ⟨A, 2, none⟩ (.int .i64 0) = w7 := ⟨_, rfl⟩
      have ha7 := set3 ha6 (.int .i64 0) (.int .i64 0) (.int .i64 0)
      rw [hw7] at ha7
      have s0 := cell_of (v := .int .i64 0) ha7 0 rfl
      have s1 := cell_of (v := .int .i64 0) ha7 1 rfl
      have s2 := cell_of (v := .int .i64 0) ha7 2 rfl
      have HK7 : Hid (Keeps (fun _ => False) w w7) := Hid.of (by
        rw [← hw7]
        exact ((K6.setCell _ _ (.inr (Nat.le_of_eq hA))).setCell _ _ (.inr (Nat.le_of_eq hA))).setCell _ _ (.inr (Nat.le_of_eq hA)))
      clear k56 K6 ha6 hd6 ha7
      clear k1 k2 k3 hb3 H3 H4 k4 hd4 hb4 H5 hd5 k35 hb5 hw3 ha1 hw1
      go_region
      clear lk lk3 hp3 hp4 g1 g3 f0 f1 f2 u0 u1 u2 hw5
      go_wp2
      go_region
      clear y0 y2 y3 v0 v1 v2 hp5
      rw [HW6.out]
      go_wp2
      refine bodyPost_ret (v := .tuple #[.agg #[.int .i64 0, .int .i64 0, .int .i64 0], .int .i64 5]) ?_ ?_ ?_
      · rw [results_cell_tmp (p := 4) (u := 5) (ty := 86) rfl]
        go_simp
      · rfl
      · exact ⟨rfl, HK7.out⟩
    | some x =>
      obtain ⟨xr, xn, xa⟩ := x
      show Calls _ _ _ _ fun e w' => e = .returned (match (if kt = C.T ∧ xr = KR ∧ xn = KN then some (⟨xr, xn, xa⟩ : Slt) else none) with
        | some x => .tuple #[x.enc, .int .i64 0]
        | none => .tuple #[Slt.zero.enc, .int .i64 5]) ∧ _
      by_cases h1 : kt = C.T
      · by_cases h2 : xr = KR
        · by_cases h3 : xn = KN
          · rw [if_pos ⟨h1, h2, h3⟩]
            show Calls _ _ _ _ fun e w' => e = .returned (.tuple #[.agg #[.int .i64 xr, .int .i64 xn, .int .i64 xa], .int .i64 0]) ∧ _
            have b1 : ((kt : Int) != (C.T : Int)) = false := by simp; omega
            subst h2 h3
            clear h1
            go_enter Tryd.func41, Tryd.ntmps41
            go_wp2_with fail
            refine q1.mono ?_
            rintro e w2 ⟨rfl, k2⟩
            obtain ⟨B, hB⟩ : ∃ B, w2.heap.size = B := ⟨_, rfl⟩
            go_wp2
            obtain ⟨w3, hw3⟩ : ∃ w3, w2.alloc (.cells #[.int .i64 (kt : Int), .int .i64 KS, .int .i64 xr, .int .i64 xn] 103) = w3 := ⟨_, rfl⟩
            obtain ⟨D, hD⟩ : ∃ D, w3.heap.size = D := ⟨_, rfl⟩
            obtain ⟨w4, hw4⟩ : ∃ w4, w3.alloc (.cells #[.int .i64 0, .int .i64 0, .int .i64 0] 86) = w4 := ⟨_, rfl⟩
            rw [hw3]
            have k3 : Keeps (fun _ => False) w2 w3 := by rw [← hw3]; exact (Keeps.refl _ _).alloc _
            have hb3 : w3.heap[B]? = some (.cells #[.int .i64 (kt : Int), .int .i64 KS, .int .i64 xr, .int .i64 xn] 103 (0, 0)) := by rw [← hw3, ← hB]; exact alloc_new _ _
            have k4 : Keeps (fun _ => False) w3 w4 := by rw [← hw4]; exact (Keeps.refl _ _).alloc _
            have hd4 : w4.heap[D]? = some (.cells #[.int .i64 0, .int .i64 0, .int .i64 0] 86 (0, 0)) := by rw [← hw4, ← hD]; exact alloc_new _ _
            have H3 := ((H.old k1).old k2).old k3
            have H4 := H3.old k4
            have lk3 := (H3.map.drew).look_ok (P := Tryd.prog) 3 Tryd.underlying78 Tryd.underlying3 KS (z := Slt.zero) (zero_slot _)
            have hp3 := cell_of (v := .map (some p.m)) H3.cells 2 rfl
            have g3 := cell_of (v := .int .i64 KS) hb3 1 rfl
            have hb4 := k4.at hb3 (fun x => x)
            have lk := (H4.map.drew).look_ok (P := Tryd.prog) 3 Tryd.underlying78 Tryd.underlying3 KS (z := Slt.zero) (zero_slot _)
            rw [hx] at lk lk3
            have exr : (some (⟨xr, xn, xa⟩ : Slt)).getD Slt.zero = ⟨xr, xn, xa⟩ := rfl
            have exi : (some (⟨xr, xn, xa⟩ : Slt)).isSome = true := rfl
            rw [exr, exi] at lk lk3
            unfold Slt.enc at lk lk3
            have hp4 := cell_of (v := .map (some p.m)) H4.cells 2 rfl
            have g1 := cell_of (v := .int .i64 KS) hb4 1 rfl
            have f0 := free_of hd4 0
            have f1 := free_of hd4 1
            have f2 := free_of hd4 2
            have u0 := cell_of (v := .int .i64 0) hd4 0 rfl
            have u1 := cell_of (v := .int .i64 0) hd4 1 rfl
            have u2 := cell_of (v := .int .i64 0) hd4 2 rfl
            obtain ⟨w5, hw5⟩ : ∃ w5, ((w4.setCell ⟨D, 0, none⟩ (.int .i64 xr)).setCell ⟨D, 1, none⟩ (.int .i64 xn)).setCell ⟨D, 2, none⟩ (.int .i64 xa) = w5 := ⟨_, rfl⟩
            have hd5 := set3 hd4 (.int .i64 xr) (.int .i64 xn) (.int .i64 xa)
            rw [hw5] at hd5
            have k35 : Keeps (fun _ => False) w3 w5 := by
              rw [← hw5]
              exact ((k4.setCell _ _ (.inr (Nat.le_of_eq hD))).setCell _ _ (.inr (Nat.le_of_eq hD))).setCell _ _ (.inr (Nat.le_of_eq hD))
            have hb5 := k35.at hb3 (fun x => x)
            have H5 := (((H.old k1).old k2).old k3).old k35
            have hp5 := cell_of (v := .int .i64 C.T) H5.cells 0 rfl
            have y0 := cell_of (v := .int .i64 (kt : Int)) hb5 0 rfl
            have y2 := cell_of (v := .int .i64 xr) hb5 2 rfl
            have y3 := cell_of (v := .int .i64 xn) hb5 3 rfl
            have v0 := cell_of (v := .int .i64 xr) hd5 0 rfl
            have v1 := cell_of (v := .int .i64 xn) hd5 1 rfl
            have v2 := cell_of (v := .int .i64 xa) hd5 2 rfl
            obtain ⟨w6, hw6⟩ : ∃ w6, w5.drew.drew = w6 := ⟨_, rfl⟩
            have k56 : Keeps (fun _ => False) w5 w6 := by rw [← hw6]; exact ((Keeps.refl _ _).drew).drew
            have HW6 := Hid.of hw6
            clear hw6
            have K6 := (((k1.trans k2).trans k3).trans k35).trans k56
            have ha6 := ((((k2.trans k3).trans k35).trans k56).at ha1 (fun x => x))
            have hd6 := k56.at hd5 (fun x => x)
            have d0 := free_of ha6 0
            have d1 := free_of ha6 1
            have d2 := free_of ha6 2
            have z0 := cell_of (v := .int .i64 0) ha6 0 rfl
            have z1 := cell_of (v := .int .i64 0) ha6 1 rfl
            have z2 := cell_of (v := .int .i64 0) ha6 2 rfl
            have t0 := cell_of (v := .int .i64 xr) hd6 0 rfl
            have t1 := cell_of (v := .int .i64 xn) hd6 1 rfl
            have t2 := cell_of (v := .int .i64 xa) hd6 2 rfl
            obtain ⟨w7, hw7⟩ : ∃ w7, ((w6.setCell ⟨A, 0, none⟩ (.int .i64 xr)).setCell ⟨A, 1, none⟩ (.int .i64 xn)).setCell ⟨A, 2, none⟩ (.int .i64 xa) = w7 := ⟨_, rfl⟩
            have ha7 := set3 ha6 (.int .i64 xr) (.int .i64 xn) (.int .i64 xa)
            rw [hw7] at ha7
            have s0 := cell_of (v := .int .i64 xr) ha7 0 rfl
            have s1 := cell_of (v := .int .i64 xn) ha7 1 rfl
            have s2 := cell_of (v := .int .i64 xa) ha7 2 rfl
            have HK7 : Hid (Keeps (fun _ => False) w w7) := Hid.of (by
              rw [← hw7]
              exact ((K6.setCell _ _ (.inr (Nat.le_of_eq hA))).setCell _ _ (.inr (Nat.le_of_eq hA))).setCell _ _ (.inr (Nat.le_of_eq hA)))
            clear k56 K6 ha6 hd6 ha7
            clear k1 k2 k3 hb3 H3 H4 k4 hd4 hb4 H5 hd5 k35 hb5 hw3 ha1 hw1
            go_region
            clear lk lk3 hp3 hp4 g1 g3 f0 f1 f2 u0 u1 u2 hw5
            go_wp2
            go_region
            clear y0 y2 y3 v0 v1 v2 hp5
            rw [HW6.out]
            go_wp2
            refine bodyPost_ret (v := .tuple #[.agg #[.int .i64 xr, .int .i64 xn, .int .i64 xa], .int .i64 0]) ?_ ?_ ?_
            · rw [results_cell_tmp (p := 4) (u := 5) (ty := 86) rfl]
              go_simp
            · rfl
            · exact ⟨rfl, HK7.out⟩
          · rw [if_neg (fun h => h3 h.2.2)]
            show Calls _ _ _ _ fun e w' => e = .returned (.tuple #[Slt.zero.enc, .int .i64 5]) ∧ _
            have b1 : ((kt : Int) != (C.T : Int)) = false := by simp; omega
            have b3 : (xn == KN) = false := by simpa using h3
            have b2 : (xr == KR) = true := by simpa using h2
            clear h1 h2 h3
            go_enter Tryd.func41, Tryd.ntmps41
            go_wp2_with fail
            refine q1.mono ?_
            rintro e w2 ⟨rfl, k2⟩
            obtain ⟨B, hB⟩ : ∃ B, w2.heap.size = B := ⟨_, rfl⟩
            go_wp2
            obtain ⟨w3, hw3⟩ : ∃ w3, w2.alloc (.cells #[.int .i64 (kt : Int), .int .i64 KS, .int .i64 KR, .int .i64 KN] 103) = w3 := ⟨_, rfl⟩
            obtain ⟨D, hD⟩ : ∃ D, w3.heap.size = D := ⟨_, rfl⟩
            obtain ⟨w4, hw4⟩ : ∃ w4, w3.alloc (.cells #[.int .i64 0, .int .i64 0, .int .i64 0] 86) = w4 := ⟨_, rfl⟩
            rw [hw3]
            have k3 : Keeps (fun _ => False) w2 w3 := by rw [← hw3]; exact (Keeps.refl _ _).alloc _
            have hb3 : w3.heap[B]? = some (.cells #[.int .i64 (kt : Int), .int .i64 KS, .int .i64 KR, .int .i64 KN] 103 (0, 0)) := by rw [← hw3, ← hB]; exact alloc_new _ _
            have k4 : Keeps (fun _ => False) w3 w4 := by rw [← hw4]; exact (Keeps.refl _ _).alloc _
            have hd4 : w4.heap[D]? = some (.cells #[.int .i64 0, .int .i64 0, .int .i64 0] 86 (0, 0)) := by rw [← hw4, ← hD]; exact alloc_new _ _
            have H3 := ((H.old k1).old k2).old k3
            have H4 := H3.old k4
            have lk3 := (H3.map.drew).look_ok (P := Tryd.prog) 3 Tryd.underlying78 Tryd.underlying3 KS (z := Slt.zero) (zero_slot _)
            have hp3 := cell_of (v := .map (some p.m)) H3.cells 2 rfl
            have g3 := cell_of (v := .int .i64 KS) hb3 1 rfl
            have hb4 := k4.at hb3 (fun x => x)
            have lk := (H4.map.drew).look_ok (P := Tryd.prog) 3 Tryd.underlying78 Tryd.underlying3 KS (z := Slt.zero) (zero_slot _)
            rw [hx] at lk lk3
            have exr : (some (⟨xr, xn, xa⟩ : Slt)).getD Slt.zero = ⟨xr, xn, xa⟩ := rfl
            have exi : (some (⟨xr, xn, xa⟩ : Slt)).isSome = true := rfl
            rw [exr, exi] at lk lk3
            unfold Slt.enc at lk lk3
            have hp4 := cell_of (v := .map (some p.m)) H4.cells 2 rfl
            have g1 := cell_of (v := .int .i64 KS) hb4 1 rfl
            have f0 := free_of hd4 0
            have f1 := free_of hd4 1
            have f2 := free_of hd4 2
            have u0 := cell_of (v := .int .i64 0) hd4 0 rfl
            have u1 := cell_of (v := .int .i64 0) hd4 1 rfl
            have u2 := cell_of (v := .int .i64 0) hd4 2 rfl
            obtain ⟨w5, hw5⟩ : ∃ w5, ((w4.setCell ⟨D, 0, none⟩ (.int .i64 xr)).setCell ⟨D, 1, none⟩ (.int .i64 xn)).setCell ⟨D, 2, none⟩ (.int .i64 xa) = w5 := ⟨_, rfl⟩
            have hd5 := set3 hd4 (.int .i64 xr) (.int .i64 xn) (.int .i64 xa)
            rw [hw5] at hd5
            have k35 : Keeps (fun _ => False) w3 w5 := by
              rw [← hw5]
              exact ((k4.setCell _ _ (.inr (Nat.le_of_eq hD))).setCell _ _ (.inr (Nat.le_of_eq hD))).setCell _ _ (.inr (Nat.le_of_eq hD))
            have hb5 := k35.at hb3 (fun x => x)
            have H5 := (((H.old k1).old k2).old k3).old k35
            have hp5 := cell_of (v := .int .i64 C.T) H5.cells 0 rfl
            have y0 := cell_of (v := .int .i64 (kt : Int)) hb5 0 rfl
            have y2 := cell_of (v := .int .i64 KR) hb5 2 rfl
            have y3 := cell_of (v := .int .i64 KN) hb5 3 rfl
            have v0 := cell_of (v := .int .i64 xr) hd5 0 rfl
            have v1 := cell_of (v := .int .i64 xn) hd5 1 rfl
            have v2 := cell_of (v := .int .i64 xa) hd5 2 rfl
            obtain ⟨w6, hw6⟩ : ∃ w6, w5.drew.drew = w6 := ⟨_, rfl⟩
            have k56 : Keeps (fun _ => False) w5 w6 := by rw [← hw6]; exact ((Keeps.refl _ _).drew).drew
            have HW6 := Hid.of hw6
            clear hw6
            have K6 := (((k1.trans k2).trans k3).trans k35).trans k56
            have ha6 := ((((k2.trans k3).trans k35).trans k56).at ha1 (fun x => x))
            have hd6 := k56.at hd5 (fun x => x)
            have d0 := free_of ha6 0
            have d1 := free_of ha6 1
            have d2 := free_of ha6 2
            have z0 := cell_of (v := .int .i64 0) ha6 0 rfl
            have z1 := cell_of (v := .int .i64 0) ha6 1 rfl
            have z2 := cell_of (v := .int .i64 0) ha6 2 rfl
            have t0 := cell_of (v := .int .i64 xr) hd6 0 rfl
            have t1 := cell_of (v := .int .i64 xn) hd6 1 rfl
            have t2 := cell_of (v := .int .i64 xa) hd6 2 rfl
            obtain ⟨w7, hw7⟩ : ∃ w7, ((w6.setCell ⟨A, 0, none⟩ (.int .i64 0)).setCell ⟨A, 1, none⟩ (.int .i64 0)).setCell ⟨A, 2, none⟩ (.int .i64 0) = w7 := ⟨_, rfl⟩
            have ha7 := set3 ha6 (.int .i64 0) (.int .i64 0) (.int .i64 0)
            rw [hw7] at ha7
            have s0 := cell_of (v := .int .i64 0) ha7 0 rfl
            have s1 := cell_of (v := .int .i64 0) ha7 1 rfl
            have s2 := cell_of (v := .int .i64 0) ha7 2 rfl
            have HK7 : Hid (Keeps (fun _ => False) w w7) := Hid.of (by
              rw [← hw7]
              exact ((K6.setCell _ _ (.inr (Nat.le_of_eq hA))).setCell _ _ (.inr (Nat.le_of_eq hA))).setCell _ _ (.inr (Nat.le_of_eq hA)))
            clear k56 K6 ha6 hd6 ha7
            clear k1 k2 k3 hb3 H3 H4 k4 hd4 hb4 H5 hd5 k35 hb5 hw3 ha1 hw1
            go_region
            clear lk lk3 hp3 hp4 g1 g3 f0 f1 f2 u0 u1 u2 hw5
            go_wp2
            go_region
            clear y0 y2 y3 v0 v1 v2 hp5
            rw [HW6.out]
            go_wp2
            refine bodyPost_ret (v := .tuple #[.agg #[.int .i64 0, .int .i64 0, .int .i64 0], .int .i64 5]) ?_ ?_ ?_
            · rw [results_cell_tmp (p := 4) (u := 5) (ty := 86) rfl]
              go_simp
            · rfl
            · exact ⟨rfl, HK7.out⟩
        · rw [if_neg (fun h => h2 h.2.1)]
          show Calls _ _ _ _ fun e w' => e = .returned (.tuple #[Slt.zero.enc, .int .i64 5]) ∧ _
          have b1 : ((kt : Int) != (C.T : Int)) = false := by simp; omega
          have b2 : (xr == KR) = false := by simpa using h2
          clear h1 h2
          go_enter Tryd.func41, Tryd.ntmps41
          go_wp2_with fail
          refine q1.mono ?_
          rintro e w2 ⟨rfl, k2⟩
          obtain ⟨B, hB⟩ : ∃ B, w2.heap.size = B := ⟨_, rfl⟩
          go_wp2
          obtain ⟨w3, hw3⟩ : ∃ w3, w2.alloc (.cells #[.int .i64 (kt : Int), .int .i64 KS, .int .i64 KR, .int .i64 KN] 103) = w3 := ⟨_, rfl⟩
          obtain ⟨D, hD⟩ : ∃ D, w3.heap.size = D := ⟨_, rfl⟩
          obtain ⟨w4, hw4⟩ : ∃ w4, w3.alloc (.cells #[.int .i64 0, .int .i64 0, .int .i64 0] 86) = w4 := ⟨_, rfl⟩
          rw [hw3]
          have k3 : Keeps (fun _ => False) w2 w3 := by rw [← hw3]; exact (Keeps.refl _ _).alloc _
          have hb3 : w3.heap[B]? = some (.cells #[.int .i64 (kt : Int), .int .i64 KS, .int .i64 KR, .int .i64 KN] 103 (0, 0)) := by rw [← hw3, ← hB]; exact alloc_new _ _
          have k4 : Keeps (fun _ => False) w3 w4 := by rw [← hw4]; exact (Keeps.refl _ _).alloc _
          have hd4 : w4.heap[D]? = some (.cells #[.int .i64 0, .int .i64 0, .int .i64 0] 86 (0, 0)) := by rw [← hw4, ← hD]; exact alloc_new _ _
          have H3 := ((H.old k1).old k2).old k3
          have H4 := H3.old k4
          have lk3 := (H3.map.drew).look_ok (P := Tryd.prog) 3 Tryd.underlying78 Tryd.underlying3 KS (z := Slt.zero) (zero_slot _)
          have hp3 := cell_of (v := .map (some p.m)) H3.cells 2 rfl
          have g3 := cell_of (v := .int .i64 KS) hb3 1 rfl
          have hb4 := k4.at hb3 (fun x => x)
          have lk := (H4.map.drew).look_ok (P := Tryd.prog) 3 Tryd.underlying78 Tryd.underlying3 KS (z := Slt.zero) (zero_slot _)
          rw [hx] at lk lk3
          have exr : (some (⟨xr, xn, xa⟩ : Slt)).getD Slt.zero = ⟨xr, xn, xa⟩ := rfl
          have exi : (some (⟨xr, xn, xa⟩ : Slt)).isSome = true := rfl
          rw [exr, exi] at lk lk3
          unfold Slt.enc at lk lk3
          have hp4 := cell_of (v := .map (some p.m)) H4.cells 2 rfl
          have g1 := cell_of (v := .int .i64 KS) hb4 1 rfl
          have f0 := free_of hd4 0
          have f1 := free_of hd4 1
          have f2 := free_of hd4 2
          have u0 := cell_of (v := .int .i64 0) hd4 0 rfl
          have u1 := cell_of (v := .int .i64 0) hd4 1 rfl
          have u2 := cell_of (v := .int .i64 0) hd4 2 rfl
          obtain ⟨w5, hw5⟩ : ∃ w5, ((w4.setCell ⟨D, 0, none⟩ (.int .i64 xr)).setCell ⟨D, 1, none⟩ (.int .i64 xn)).setCell ⟨D, 2, none⟩ (.int .i64 xa) = w5 := ⟨_, rfl⟩
          have hd5 := set3 hd4 (.int .i64 xr) (.int .i64 xn) (.int .i64 xa)
          rw [hw5] at hd5
          have k35 : Keeps (fun _ => False) w3 w5 := by
            rw [← hw5]
            exact ((k4.setCell _ _ (.inr (Nat.le_of_eq hD))).setCell _ _ (.inr (Nat.le_of_eq hD))).setCell _ _ (.inr (Nat.le_of_eq hD))
          have hb5 := k35.at hb3 (fun x => x)
          have H5 := (((H.old k1).old k2).old k3).old k35
          have hp5 := cell_of (v := .int .i64 C.T) H5.cells 0 rfl
          have y0 := cell_of (v := .int .i64 (kt : Int)) hb5 0 rfl
          have y2 := cell_of (v := .int .i64 KR) hb5 2 rfl
          have y3 := cell_of (v := .int .i64 KN) hb5 3 rfl
          have v0 := cell_of (v := .int .i64 xr) hd5 0 rfl
          have v1 := cell_of (v := .int .i64 xn) hd5 1 rfl
          have v2 := cell_of (v := .int .i64 xa) hd5 2 rfl
          obtain ⟨w6, hw6⟩ : ∃ w6, w5.drew.drew = w6 := ⟨_, rfl⟩
          have k56 : Keeps (fun _ => False) w5 w6 := by rw [← hw6]; exact ((Keeps.refl _ _).drew).drew
          have HW6 := Hid.of hw6
          clear hw6
          have K6 := (((k1.trans k2).trans k3).trans k35).trans k56
          have ha6 := ((((k2.trans k3).trans k35).trans k56).at ha1 (fun x => x))
          have hd6 := k56.at hd5 (fun x => x)
          have d0 := free_of ha6 0
          have d1 := free_of ha6 1
          have d2 := free_of ha6 2
          have z0 := cell_of (v := .int .i64 0) ha6 0 rfl
          have z1 := cell_of (v := .int .i64 0) ha6 1 rfl
          have z2 := cell_of (v := .int .i64 0) ha6 2 rfl
          have t0 := cell_of (v := .int .i64 xr) hd6 0 rfl
          have t1 := cell_of (v := .int .i64 xn) hd6 1 rfl
          have t2 := cell_of (v := .int .i64 xa) hd6 2 rfl
          obtain ⟨w7, hw7⟩ : ∃ w7, ((w6.setCell ⟨A, 0, none⟩ (.int .i64 0)).setCell ⟨A, 1, none⟩ (.int .i64 0)).setCell ⟨A, 2, none⟩ (.int .i64 0) = w7 := ⟨_, rfl⟩
          have ha7 := set3 ha6 (.int .i64 0) (.int .i64 0) (.int .i64 0)
          rw [hw7] at ha7
          have s0 := cell_of (v := .int .i64 0) ha7 0 rfl
          have s1 := cell_of (v := .int .i64 0) ha7 1 rfl
          have s2 := cell_of (v := .int .i64 0) ha7 2 rfl
          have HK7 : Hid (Keeps (fun _ => False) w w7) := Hid.of (by
            rw [← hw7]
            exact ((K6.setCell _ _ (.inr (Nat.le_of_eq hA))).setCell _ _ (.inr (Nat.le_of_eq hA))).setCell _ _ (.inr (Nat.le_of_eq hA)))
          clear k56 K6 ha6 hd6 ha7
          clear k1 k2 k3 hb3 H3 H4 k4 hd4 hb4 H5 hd5 k35 hb5 hw3 ha1 hw1
          go_region
          clear lk lk3 hp3 hp4 g1 g3 f0 f1 f2 u0 u1 u2 hw5
          go_wp2
          go_region
          clear y0 y2 y3 v0 v1 v2 hp5
          rw [HW6.out]
          go_wp2
          refine bodyPost_ret (v := .tuple #[.agg #[.int .i64 0, .int .i64 0, .int .i64 0], .int .i64 5]) ?_ ?_ ?_
          · rw [results_cell_tmp (p := 4) (u := 5) (ty := 86) rfl]
            go_simp
          · rfl
          · exact ⟨rfl, HK7.out⟩
      · rw [if_neg (fun h => h1 h.1)]
        show Calls _ _ _ _ fun e w' => e = .returned (.tuple #[Slt.zero.enc, .int .i64 5]) ∧ _
        have b1 : ((kt : Int) != (C.T : Int)) = true := by simp; omega
        clear h1
        go_enter Tryd.func41, Tryd.ntmps41
        go_wp2_with fail
        refine q1.mono ?_
        rintro e w2 ⟨rfl, k2⟩
        obtain ⟨B, hB⟩ : ∃ B, w2.heap.size = B := ⟨_, rfl⟩
        go_wp2
        obtain ⟨w3, hw3⟩ : ∃ w3, w2.alloc (.cells #[.int .i64 (kt : Int), .int .i64 KS, .int .i64 KR, .int .i64 KN] 103) = w3 := ⟨_, rfl⟩
        obtain ⟨D, hD⟩ : ∃ D, w3.heap.size = D := ⟨_, rfl⟩
        obtain ⟨w4, hw4⟩ : ∃ w4, w3.alloc (.cells #[.int .i64 0, .int .i64 0, .int .i64 0] 86) = w4 := ⟨_, rfl⟩
        rw [hw3]
        have k3 : Keeps (fun _ => False) w2 w3 := by rw [← hw3]; exact (Keeps.refl _ _).alloc _
        have hb3 : w3.heap[B]? = some (.cells #[.int .i64 (kt : Int), .int .i64 KS, .int .i64 KR, .int .i64 KN] 103 (0, 0)) := by rw [← hw3, ← hB]; exact alloc_new _ _
        have k4 : Keeps (fun _ => False) w3 w4 := by rw [← hw4]; exact (Keeps.refl _ _).alloc _
        have hd4 : w4.heap[D]? = some (.cells #[.int .i64 0, .int .i64 0, .int .i64 0] 86 (0, 0)) := by rw [← hw4, ← hD]; exact alloc_new _ _
        have H3 := ((H.old k1).old k2).old k3
        have H4 := H3.old k4
        have lk3 := (H3.map.drew).look_ok (P := Tryd.prog) 3 Tryd.underlying78 Tryd.underlying3 KS (z := Slt.zero) (zero_slot _)
        have hp3 := cell_of (v := .map (some p.m)) H3.cells 2 rfl
        have g3 := cell_of (v := .int .i64 KS) hb3 1 rfl
        have hb4 := k4.at hb3 (fun x => x)
        have lk := (H4.map.drew).look_ok (P := Tryd.prog) 3 Tryd.underlying78 Tryd.underlying3 KS (z := Slt.zero) (zero_slot _)
        rw [hx] at lk lk3
        have exr : (some (⟨xr, xn, xa⟩ : Slt)).getD Slt.zero = ⟨xr, xn, xa⟩ := rfl
        have exi : (some (⟨xr, xn, xa⟩ : Slt)).isSome = true := rfl
        rw [exr, exi] at lk lk3
        unfold Slt.enc at lk lk3
        have hp4 := cell_of (v := .map (some p.m)) H4.cells 2 rfl
        have g1 := cell_of (v := .int .i64 KS) hb4 1 rfl
        have f0 := free_of hd4 0
        have f1 := free_of hd4 1
        have f2 := free_of hd4 2
        have u0 := cell_of (v := .int .i64 0) hd4 0 rfl
        have u1 := cell_of (v := .int .i64 0) hd4 1 rfl
        have u2 := cell_of (v := .int .i64 0) hd4 2 rfl
        obtain ⟨w5, hw5⟩ : ∃ w5, ((w4.setCell ⟨D, 0, none⟩ (.int .i64 xr)).setCell ⟨D, 1, none⟩ (.int .i64 xn)).setCell ⟨D, 2, none⟩ (.int .i64 xa) = w5 := ⟨_, rfl⟩
        have hd5 := set3 hd4 (.int .i64 xr) (.int .i64 xn) (.int .i64 xa)
        rw [hw5] at hd5
        have k35 : Keeps (fun _ => False) w3 w5 := by
          rw [← hw5]
          exact ((k4.setCell _ _ (.inr (Nat.le_of_eq hD))).setCell _ _ (.inr (Nat.le_of_eq hD))).setCell _ _ (.inr (Nat.le_of_eq hD))
        have hb5 := k35.at hb3 (fun x => x)
        have H5 := (((H.old k1).old k2).old k3).old k35
        have hp5 := cell_of (v := .int .i64 C.T) H5.cells 0 rfl
        have y0 := cell_of (v := .int .i64 (kt : Int)) hb5 0 rfl
        have y2 := cell_of (v := .int .i64 KR) hb5 2 rfl
        have y3 := cell_of (v := .int .i64 KN) hb5 3 rfl
        have v0 := cell_of (v := .int .i64 xr) hd5 0 rfl
        have v1 := cell_of (v := .int .i64 xn) hd5 1 rfl
        have v2 := cell_of (v := .int .i64 xa) hd5 2 rfl
        obtain ⟨w6, hw6⟩ : ∃ w6, w5.drew.drew = w6 := ⟨_, rfl⟩
        have k56 : Keeps (fun _ => False) w5 w6 := by rw [← hw6]; exact ((Keeps.refl _ _).drew).drew
        have HW6 := Hid.of hw6
        clear hw6
        have K6 := (((k1.trans k2).trans k3).trans k35).trans k56
        have ha6 := ((((k2.trans k3).trans k35).trans k56).at ha1 (fun x => x))
        have hd6 := k56.at hd5 (fun x => x)
        have d0 := free_of ha6 0
        have d1 := free_of ha6 1
        have d2 := free_of ha6 2
        have z0 := cell_of (v := .int .i64 0) ha6 0 rfl
        have z1 := cell_of (v := .int .i64 0) ha6 1 rfl
        have z2 := cell_of (v := .int .i64 0) ha6 2 rfl
        have t0 := cell_of (v := .int .i64 xr) hd6 0 rfl
        have t1 := cell_of (v := .int .i64 xn) hd6 1 rfl
        have t2 := cell_of (v := .int .i64 xa) hd6 2 rfl
        obtain ⟨w7, hw7⟩ : ∃ w7, ((w6.setCell ⟨A, 0, none⟩ (.int .i64 0)).setCell ⟨A, 1, none⟩ (.int .i64 0)).setCell ⟨A, 2, none⟩ (.int .i64 0) = w7 := ⟨_, rfl⟩
        have ha7 := set3 ha6 (.int .i64 0) (.int .i64 0) (.int .i64 0)
        rw [hw7] at ha7
        have s0 := cell_of (v := .int .i64 0) ha7 0 rfl
        have s1 := cell_of (v := .int .i64 0) ha7 1 rfl
        have s2 := cell_of (v := .int .i64 0) ha7 2 rfl
        have HK7 : Hid (Keeps (fun _ => False) w w7) := Hid.of (by
          rw [← hw7]
          exact ((K6.setCell _ _ (.inr (Nat.le_of_eq hA))).setCell _ _ (.inr (Nat.le_of_eq hA))).setCell _ _ (.inr (Nat.le_of_eq hA)))
        clear k56 K6 ha6 hd6 ha7
        clear k1 k2 k3 hb3 H3 H4 k4 hd4 hb4 H5 hd5 k35 hb5 hw3 ha1 hw1
        go_region
        clear lk lk3 hp3 hp4 g1 g3 f0 f1 f2 u0 u1 u2 hw5
        go_wp2
        go_region
        clear y0 y2 y3 v0 v1 v2 hp5
        rw [HW6.out]
        go_wp2
        refine bodyPost_ret (v := .tuple #[.agg #[.int .i64 0, .int .i64 0, .int .i64 0], .int .i64 5]) ?_ ?_ ?_
        · rw [results_cell_tmp (p := 4) (u := 5) (ty := 86) rfl]
          go_simp
        · rfl
        · exact ⟨rfl, HK7.out⟩
end Ca
end Go.Proofs.YtagmkkddjdlncaaDoor

/-! The caps package's walks: good.may, Serial, Find, put, Grant. -/
namespace Go.Proofs.YtagmkkddjdlncaaDoor
open Go.RowKit Go.ChangeMaps
namespace Ca
/-- Whether rights hold others. -/
def has (r x : Int) : Bool := bits .and .i64 r x == x
set_option maxRecDepth 100000 in
theorem may_any (w : World) (r n x : Int) : Calls Tryd.prog 42 #[.agg #[.int .i64 r, .int .i64 n], .int .i64 x] w fun e w' => e = .returned (.bool (has r x)) ∧ Keeps (fun _ => False) w w' := by
  obtain ⟨A, hA⟩ : ∃ A, w.heap.size = A := ⟨_, rfl⟩
  obtain ⟨w1, hw1⟩ : ∃ w1, w.alloc (.cells #[.int .i64 r, .int .i64 n] 84) = w1 := ⟨_, rfl⟩
  have k1 : Keeps (fun _ => False) w w1 := by rw [← hw1]; exact (Keeps.refl _ _).alloc _
  have ha1 : w1.heap[A]? = some (.cells #[.int .i64 r, .int .i64 n] 84 (0, 0)) := by rw [← hw1, ← hA]; exact alloc_new _ _
  have c0 := cell_of (v := .int .i64 r) ha1 0 rfl
  have HK := Hid.of k1
  unfold has
  obtain ⟨y, hy⟩ : ∃ y, bits .and .i64 r x = y := ⟨_, rfl⟩
  rw [hy]
  clear k1 ha1
  go_enter Tryd.func42, Tryd.ntmps42
  go_wp2
  go_ret
  exact ⟨rfl, HK.out⟩
set_option maxRecDepth 100000 in
theorem serial_any (w : World) (p : Pl) (C : Cp) (H : At w p C) : Calls Tryd.prog 31 #[.pointer (some ⟨p.c, 0, none⟩)] w fun e w' => e = .returned (.int .i64 C.N) ∧ w = w' := by
  have c1 := cell_of (v := .int .i64 C.N) H.cells 1 rfl
  go_enter Tryd.func31, Tryd.ntmps31
  go_wp2
  go_ret
  exact ⟨rfl, rfl⟩
/-- What Find answers. -/
def Fnd (C : Cp) (h : Nat) (x : Int) : Int × Int := match fnd C h with
  | some y => if 0 ≤ x ∧ x ≤ 7 then (if has y.r x then (y.a, 0) else (0, 5)) else (0, 5)
  | none => (0, 5)
set_option maxRecDepth 100000 in
set_option maxHeartbeats 1000000 in
theorem Find_any (w : World) (p : Pl) (C : Cp) (h : Nat) (x : Int) (H : At w p C) (hh : h < 18446744073709551616) :
    Calls Tryd.prog 24 #[.pointer (some ⟨p.c, 0, none⟩), .int .u64 h, .int .i64 x] w fun e w' => e = .returned (.tuple #[.int .i64 (Fnd C h x).1, .int .i64 (Fnd C h x).2]) ∧ Keeps (fun _ => False) w w' := by
  have q := find_any w p C h H hh
  unfold fndV at q
  unfold Fnd
  cases hf : fnd C h with
  | none =>
    rw [hf] at q
    dsimp only at q ⊢
    unfold Slt.enc Slt.zero at q
    dsimp only at q
    go_enter Tryd.func24, Tryd.ntmps24
    go_wp2_with fail
    refine q.mono ?_
    rintro e w1 ⟨rfl, k1⟩
    have HK := Hid.of (k1.alloc (.cells #[.int .i64 0, .int .i64 0, .int .i64 0] 86))
    clear q k1
    go_wp2
    go_ret2
    exact ⟨rfl, HK.out⟩
  | some y =>
    obtain ⟨yr, yn, ya⟩ := y
    rw [hf] at q
    dsimp only at q ⊢
    unfold Slt.enc at q
    dsimp only at q
    have hk : x < 0 ∨ (0 ≤ x ∧ 7 < x) ∨ (0 ≤ x ∧ x ≤ 7) := by omega
    rcases hk with h1 | ⟨h1, h2⟩ | ⟨h1, h2⟩
    · rw [if_neg (by omega)]
      go_enter Tryd.func24, Tryd.ntmps24
      go_wp2_with fail
      refine q.mono ?_
      rintro e w1 ⟨rfl, k1⟩
      have HK := Hid.of (k1.alloc (.cells #[.int .i64 yr, .int .i64 yn, .int .i64 ya] 86))
      clear q k1
      go_wp2
      go_ret2
      exact ⟨rfl, HK.out⟩
    · rw [if_neg (by omega)]
      go_enter Tryd.func24, Tryd.ntmps24
      go_wp2_with fail
      refine q.mono ?_
      rintro e w1 ⟨rfl, k1⟩
      have HK := Hid.of (k1.alloc (.cells #[.int .i64 yr, .int .i64 yn, .int .i64 ya] 86))
      clear q k1
      go_wp2
      go_ret2
      exact ⟨rfl, HK.out⟩
    · rw [if_pos ⟨h1, h2⟩]
      cases hb : has yr x
      all_goals
        go_enter Tryd.func24, Tryd.ntmps24
        go_wp2_with fail
        refine q.mono ?_
        rintro e w1 ⟨rfl, k1⟩
        obtain ⟨A, hA⟩ : ∃ A, w1.heap.size = A := ⟨_, rfl⟩
        obtain ⟨w2, hw2⟩ : ∃ w2, w1.alloc (.cells #[.int .i64 yr, .int .i64 yn, .int .i64 ya] 86) = w2 := ⟨_, rfl⟩
        have k2 : Keeps (fun _ => False) w1 w2 := by rw [← hw2]; exact (Keeps.refl _ _).alloc _
        have ha2 : w2.heap[A]? = some (.cells #[.int .i64 yr, .int .i64 yn, .int .i64 ya] 86 (0, 0)) := by rw [← hw2, ← hA]; exact alloc_new _ _
        have c0 := cell_of (v := .int .i64 yr) ha2 0 rfl
        have c1 := cell_of (v := .int .i64 yn) ha2 1 rfl
        have q2 := may_any w2 yr yn x
        rw [hb] at q2
        have HK := Hid.of (And.intro (k1.trans k2) ha2)
        clear q k1 k2 ha2 hb
        go_wp2_with fail
        refine q2.mono ?_
        rintro e w3 ⟨rfl, k3⟩
        have d2 := cell_of (v := .int .i64 ya) (k3.at HK.out.2 (fun x => x)) 2 rfl
        have HK3 := Hid.of (HK.out.1.trans k3)
        clear q2 k3
        go_wp2
        go_ret2
        exact ⟨rfl, HK3.out⟩
end Ca
end Go.Proofs.YtagmkkddjdlncaaDoor

/-! The caps package's walks: put, on either shelf (printed by gen_caput.py). -/
namespace Go.Proofs.YtagmkkddjdlncaaDoor
open Go.RowKit Go.ChangeMaps
namespace Ca
/-- A table as it should be. -/
structure Ok (C : Cp) : Prop where
  t : C.T < 8
  n : 1 ≤ C.N
  a : C.A.length = 4096
  b : C.B.length = 64
/-- What a call that gives a handle leaves. -/
def PutR (w : World) (p : Pl) (h : Nat) (E : Int) (C' : Cp) (e : Ending) (w' : World) : Prop := e = .returned (.tuple #[.int .u64 h, .int .i64 E]) ∧ At w' p C' ∧ Keeps (Fp p) w w'
theorem At.shelfA {w w' : World} {p : Pl} {C C' : Cp} (h : At w p C) {S : List Bool} (a : Sh.At w' p.s p.v S) (k : Keeps (Sh.Fp p.s p.v) w w') (e : C' = { C with A := S }) : At w' p C' := by
  subst e
  exact { h with
    cells := k.at h.cells h.cs
    map := h.map.keep k h.ms
    sa := a
    sb := h.sb.keep k (fun x hx hy => h.su x hy hx) }
theorem At.shelfB {w w' : World} {p : Pl} {C C' : Cp} (h : At w p C) {S : List Bool} (a : Sh.At w' p.u p.x S) (k : Keeps (Sh.Fp p.u p.x) w w') (e : C' = { C with B := S }) : At w' p C' := by
  subst e
  exact { h with
    cells := k.at h.cells h.cu
    map := h.map.keep k h.mu
    sa := h.sa.keep k (fun x hx hy => h.su x hx hy)
    sb := a }
theorem At.mapped {w w' : World} {p : Pl} {C C' : Cp} (h : At w p C) (m : EMap Slt.enc w' p.m C'.E) (k : Keeps (fun x => x = p.m) w w') (e1 : C'.T = C.T) (e2 : C'.N = C.N) (e3 : C'.A = C.A) (e4 : C'.B = C.B) : At w' p C' :=
  { h with
    cells := by rw [e1, e2]; exact k.at h.cells h.cm
    map := m
    sa := by rw [e3]; exact h.sa.keep k (fun x hx e => h.ms (e ▸ hx))
    sb := by rw [e4]; exact h.sb.keep k (fun x hx e => h.mu (e ▸ hx)) }
theorem At.next {w : World} {p : Pl} {C : Cp} (h : At w p C) (n : Nat) : At (w.setCell ⟨p.c, 1, none⟩ (.int .i64 (n : Int))) p { C with N := n } := by
  have k : Keeps (fun x => x = p.c) w (w.setCell ⟨p.c, 1, none⟩ (.int .i64 (n : Int))) := (Keeps.refl _ _).setCell _ _ (.inl rfl)
  exact { h with
    cells := set_of h.cells 1 _
    map := h.map.keep k (fun e => h.cm e.symm)
    sa := h.sa.keep k (fun x hx e => h.cs (e ▸ hx))
    sb := h.sb.keep k (fun x hx e => h.cu (e ▸ hx)) }

def putA (C : Cp) (a : Int) (r : Nat) : (Nat × Int) × Cp := if 17592186044416 ≤ C.N then ((0, 10), C) else match Sh.frees C.A with
  | [] => ((0, 10), C)
  | k :: _ => ((Han.pk C.T (0 + k) r C.N, 0), { C with N := C.N + 1, E := eset C.E ((0 + k : Nat) : Int) ⟨r, C.N, a⟩, A := C.A.set k false })
set_option maxRecDepth 100000 in
set_option maxHeartbeats 1000000 in
theorem putA_any (w : World) (p : Pl) (C : Cp) (a : Int) (r : Nat) (H : At w p C) (ok : Ok C) (hr1 : 1 ≤ r) (hr7 : r ≤ 7) (hT : Sh.Tab w) :
    Calls Tryd.prog 50 #[.pointer (some ⟨p.c, 0, none⟩), .pointer (some ⟨p.s, 0, none⟩), .int .i64 0, .int .i64 a, .int .i64 r] w (PutR w p (putA C a r).1.1 (putA C a r).1.2 (putA C a r).2) := by
  obtain ⟨n, hn⟩ : ∃ n : Int, (C.N : Int) = n := ⟨_, rfl⟩
  have c1 : w.cell? ⟨p.c, 1, none⟩ = some (.int .i64 n) := by rw [← hn]; exact cell_of H.cells 1 rfl
  have HNn := Hid.of hn
  by_cases hN : 17592186044416 ≤ C.N
  · have e : putA C a r = ((0, 10), C) := by unfold putA; rw [if_pos hN]
    rw [e]
    have hd : decide ((17592186044416 : Int) ≤ n) = true := by simp; omega
    clear hN e hn
    go_enter Tryd.func50, Tryd.ntmps50
    go_wp2
    go_ret2
    exact ⟨rfl, H, Keeps.refl _ _⟩
  · have hd : decide ((17592186044416 : Int) ≤ n) = false := by simp; omega
    have q := Sh.take_any w p.s p.v C.A H.sa hT
    unfold Sh.takeR Sh.takeS at q
    cases hf : Sh.frees C.A with
    | nil =>
      have e : putA C a r = ((0, 10), C) := by unfold putA; rw [if_neg hN, hf]
      rw [e]
      rw [hf] at q
      dsimp only at q
      clear hN e hf hn
      go_enter Tryd.func50, Tryd.ntmps50
      go_wp2_with fail
      refine q.mono ?_
      rintro e w1 ⟨rfl, a1, k1⟩
      have HF : Hid (At w1 p C ∧ Keeps (Fp p) w w1) := Hid.of (And.intro (H.shelfA (C' := C) a1 k1 rfl) (k1.mono (fun x _ hx => (.inr (.inr (.inl hx)) : Fp p x))))
      clear q a1 k1
      go_wp2
      go_ret2
      exact ⟨rfl, HF.out⟩
    | cons k rest =>
      have e : putA C a r = ((Han.pk C.T (0 + k) r C.N, 0), { C with N := C.N + 1, E := eset C.E ((0 + k : Nat) : Int) ⟨r, C.N, a⟩, A := C.A.set k false }) := by unfold putA; rw [if_neg hN, hf]
      rw [e]
      rw [hf] at q
      dsimp only at q ⊢
      have hk := (Sh.frees_take hf).1
      have hk2 : 0 + k ≤ 4159 := by have := ok.a; have := ok.b; omega
      have hNn : C.N ≤ 17592186044415 := by omega
      have qp := fun w => Han.pack_any w C.T (0 + k) r C.N (by have := ok.t; omega) hk2 hr1 hr7 ok.n hNn
      obtain ⟨P, hP⟩ : ∃ P, Han.pk C.T (0 + k) r C.N = P := ⟨_, rfl⟩
      rw [hP] at qp
      rw [hP]
      unfold Han.key at qp
      obtain ⟨z, hz⟩ : ∃ z : Int, ((0 + k : Nat) : Int) = z := ⟨_, rfl⟩
      rw [hz] at qp
      rw [hz]
      have hsum : IntKind.i64.wrap ((k : Int)) = z := by rw [IntWalk.i64_in _ (by omega)]; omega
      have hinc : wrap64 (n + 1) = ((C.N + 1 : Nat) : Int) := by unfold wrap64; omega
      rw [hn] at qp
      have HS := Hid.of hsum
      have HI := Hid.of hinc
      clear hN e hf hk hk2 hP hz hsum hinc hr1 hr7 hn hNn
      go_enter Tryd.func50, Tryd.ntmps50
      go_wp2_with fail
      refine q.mono ?_
      rintro e w1 ⟨rfl, a1, k1⟩
      have H1 := H.shelfA (C' := { C with A := C.A.set k false }) a1 k1 rfl
      have K1 : Keeps (Fp p) w w1 := k1.mono (fun x _ hx => (.inr (.inr (.inl hx)) : Fp p x))
      obtain ⟨w2, up, M2, k2⟩ := H1.map.drew.upd (P := Tryd.prog) 3 Tryd.underlying78 Tryd.underlying3 z (⟨r, C.N, a⟩ : Slt)
      have H2 := H1.mapped (C' := { C with E := eset C.E z ⟨r, C.N, a⟩, A := C.A.set k false }) M2 k2.of_drew rfl rfl rfl rfl
      have K2 := K1.trans (k2.of_drew.mono (fun x _ hx => (.inr (.inl hx) : Fp p x)))
      unfold Slt.enc at up
      dsimp only at up
      rw [HNn.out] at up
      have m1 := cell_of (v := .map (some p.m)) H1.cells 2 rfl
      have n1 : w1.cell? ⟨p.c, 1, none⟩ = some (.int .i64 n) := by rw [← HNn.out]; exact cell_of H1.cells 1 rfl
      have HH2 := Hid.of (And.intro H2 K2)
      have t2 := cell_of (v := .int .i64 C.T) H2.cells 0 rfl
      have n2 : w2.cell? ⟨p.c, 1, none⟩ = some (.int .i64 n) := by rw [← HNn.out]; exact cell_of H2.cells 1 rfl
      have hs2 := HS.out
      clear q a1 k1 H1 K1 M2 k2 H2 K2 c1 hd
      go_wp2
      go_region
      clear m1 n1 up
      go_wp2
      have qq := qp w2.drew
      clear qp
      go_region_held3 (fun wx => wx.cell? ⟨p.c, 0, none⟩ = some (.int .i64 C.T) ∧ wx.cell? ⟨p.c, 1, none⟩ = some (.int .i64 n))
        (first | exact ⟨t2, n2⟩ | exact ⟨t3, n3⟩)
        (first
          | (go_at_call 61; refine qq.mono ?_; rintro e w3 ⟨rfl, k3⟩; have HH3 := Hid.of (And.intro (HH2.out.1.old k3.of_drew) (HH2.out.2.trans (k3.of_drew.mono (fun x _ hx => hx.elim)))); have t3 := cell_of (v := .int .i64 C.T) HH3.out.1.cells 0 rfl; have n3 : w3.cell? ⟨p.c, 1, none⟩ = some (.int .i64 n) := (by rw [← HNn.out]; exact cell_of HH3.out.1.cells 1 rfl); clear k3))
      clear t2 n2 hs2 qq
      have f3 := free_of HH3.out.1.cells 1
      have hinc := HI.out
      obtain ⟨w4, hw4⟩ : ∃ w4, w3.setCell ⟨p.c, 1, none⟩ (.int .i64 ((C.N : Int) + 1)) = w4 := ⟨_, rfl⟩
      have HF : Hid (At w4 p { C with N := C.N + 1, E := eset C.E z ⟨r, C.N, a⟩, A := C.A.set k false } ∧ Keeps (Fp p) w w4) := Hid.of (by
        rw [← hw4]
        exact And.intro (HH3.out.1.next (C.N + 1)) (HH3.out.2.setCell _ _ (.inl (.inl rfl))))
      clear t3
      go_wp2
      go_ret2
      exact ⟨rfl, HF.out⟩

def putB (C : Cp) (a : Int) (r : Nat) : (Nat × Int) × Cp := if 17592186044416 ≤ C.N then ((0, 10), C) else match Sh.frees C.B with
  | [] => ((0, 10), C)
  | k :: _ => ((Han.pk C.T (4096 + k) r C.N, 0), { C with N := C.N + 1, E := eset C.E ((4096 + k : Nat) : Int) ⟨r, C.N, a⟩, B := C.B.set k false })
set_option maxRecDepth 100000 in
set_option maxHeartbeats 1000000 in
theorem putB_any (w : World) (p : Pl) (C : Cp) (a : Int) (r : Nat) (H : At w p C) (ok : Ok C) (hr1 : 1 ≤ r) (hr7 : r ≤ 7) (hT : Sh.Tab w) :
    Calls Tryd.prog 50 #[.pointer (some ⟨p.c, 0, none⟩), .pointer (some ⟨p.u, 0, none⟩), .int .i64 4096, .int .i64 a, .int .i64 r] w (PutR w p (putB C a r).1.1 (putB C a r).1.2 (putB C a r).2) := by
  obtain ⟨n, hn⟩ : ∃ n : Int, (C.N : Int) = n := ⟨_, rfl⟩
  have c1 : w.cell? ⟨p.c, 1, none⟩ = some (.int .i64 n) := by rw [← hn]; exact cell_of H.cells 1 rfl
  have HNn := Hid.of hn
  by_cases hN : 17592186044416 ≤ C.N
  · have e : putB C a r = ((0, 10), C) := by unfold putB; rw [if_pos hN]
    rw [e]
    have hd : decide ((17592186044416 : Int) ≤ n) = true := by simp; omega
    clear hN e hn
    go_enter Tryd.func50, Tryd.ntmps50
    go_wp2
    go_ret2
    exact ⟨rfl, H, Keeps.refl _ _⟩
  · have hd : decide ((17592186044416 : Int) ≤ n) = false := by simp; omega
    have q := Sh.take_any w p.u p.x C.B H.sb hT
    unfold Sh.takeR Sh.takeS at q
    cases hf : Sh.frees C.B with
    | nil =>
      have e : putB C a r = ((0, 10), C) := by unfold putB; rw [if_neg hN, hf]
      rw [e]
      rw [hf] at q
      dsimp only at q
      clear hN e hf hn
      go_enter Tryd.func50, Tryd.ntmps50
      go_wp2_with fail
      refine q.mono ?_
      rintro e w1 ⟨rfl, a1, k1⟩
      have HF : Hid (At w1 p C ∧ Keeps (Fp p) w w1) := Hid.of (And.intro (H.shelfB (C' := C) a1 k1 rfl) (k1.mono (fun x _ hx => (.inr (.inr (.inr hx)) : Fp p x))))
      clear q a1 k1
      go_wp2
      go_ret2
      exact ⟨rfl, HF.out⟩
    | cons k rest =>
      have e : putB C a r = ((Han.pk C.T (4096 + k) r C.N, 0), { C with N := C.N + 1, E := eset C.E ((4096 + k : Nat) : Int) ⟨r, C.N, a⟩, B := C.B.set k false }) := by unfold putB; rw [if_neg hN, hf]
      rw [e]
      rw [hf] at q
      dsimp only at q ⊢
      have hk := (Sh.frees_take hf).1
      have hk2 : 4096 + k ≤ 4159 := by have := ok.a; have := ok.b; omega
      have hNn : C.N ≤ 17592186044415 := by omega
      have qp := fun w => Han.pack_any w C.T (4096 + k) r C.N (by have := ok.t; omega) hk2 hr1 hr7 ok.n hNn
      obtain ⟨P, hP⟩ : ∃ P, Han.pk C.T (4096 + k) r C.N = P := ⟨_, rfl⟩
      rw [hP] at qp
      rw [hP]
      unfold Han.key at qp
      obtain ⟨z, hz⟩ : ∃ z : Int, ((4096 + k : Nat) : Int) = z := ⟨_, rfl⟩
      rw [hz] at qp
      rw [hz]
      have hsum : IntKind.i64.wrap (4096 + (k : Int)) = z := by rw [IntWalk.i64_in _ (by omega)]; omega
      have hinc : wrap64 (n + 1) = ((C.N + 1 : Nat) : Int) := by unfold wrap64; omega
      rw [hn] at qp
      have HS := Hid.of hsum
      have HI := Hid.of hinc
      clear hN e hf hk hk2 hP hz hsum hinc hr1 hr7 hn hNn
      go_enter Tryd.func50, Tryd.ntmps50
      go_wp2_with fail
      refine q.mono ?_
      rintro e w1 ⟨rfl, a1, k1⟩
      have H1 := H.shelfB (C' := { C with B := C.B.set k false }) a1 k1 rfl
      have K1 : Keeps (Fp p) w w1 := k1.mono (fun x _ hx => (.inr (.inr (.inr hx)) : Fp p x))
      obtain ⟨w2, up, M2, k2⟩ := H1.map.drew.upd (P := Tryd.prog) 3 Tryd.underlying78 Tryd.underlying3 z (⟨r, C.N, a⟩ : Slt)
      have H2 := H1.mapped (C' := { C with E := eset C.E z ⟨r, C.N, a⟩, B := C.B.set k false }) M2 k2.of_drew rfl rfl rfl rfl
      have K2 := K1.trans (k2.of_drew.mono (fun x _ hx => (.inr (.inl hx) : Fp p x)))
      unfold Slt.enc at up
      dsimp only at up
      rw [HNn.out] at up
      have m1 := cell_of (v := .map (some p.m)) H1.cells 2 rfl
      have n1 : w1.cell? ⟨p.c, 1, none⟩ = some (.int .i64 n) := by rw [← HNn.out]; exact cell_of H1.cells 1 rfl
      have HH2 := Hid.of (And.intro H2 K2)
      have t2 := cell_of (v := .int .i64 C.T) H2.cells 0 rfl
      have n2 : w2.cell? ⟨p.c, 1, none⟩ = some (.int .i64 n) := by rw [← HNn.out]; exact cell_of H2.cells 1 rfl
      have hs2 := HS.out
      clear q a1 k1 H1 K1 M2 k2 H2 K2 c1 hd
      go_wp2
      go_region
      clear m1 n1 up
      go_wp2
      have qq := qp w2.drew
      clear qp
      go_region_held3 (fun wx => wx.cell? ⟨p.c, 0, none⟩ = some (.int .i64 C.T) ∧ wx.cell? ⟨p.c, 1, none⟩ = some (.int .i64 n))
        (first | exact ⟨t2, n2⟩ | exact ⟨t3, n3⟩)
        (first
          | (go_at_call 61; refine qq.mono ?_; rintro e w3 ⟨rfl, k3⟩; have HH3 := Hid.of (And.intro (HH2.out.1.old k3.of_drew) (HH2.out.2.trans (k3.of_drew.mono (fun x _ hx => hx.elim)))); have t3 := cell_of (v := .int .i64 C.T) HH3.out.1.cells 0 rfl; have n3 : w3.cell? ⟨p.c, 1, none⟩ = some (.int .i64 n) := (by rw [← HNn.out]; exact cell_of HH3.out.1.cells 1 rfl); clear k3))
      clear t2 n2 hs2 qq
      have f3 := free_of HH3.out.1.cells 1
      have hinc := HI.out
      obtain ⟨w4, hw4⟩ : ∃ w4, w3.setCell ⟨p.c, 1, none⟩ (.int .i64 ((C.N : Int) + 1)) = w4 := ⟨_, rfl⟩
      have HF : Hid (At w4 p { C with N := C.N + 1, E := eset C.E z ⟨r, C.N, a⟩, B := C.B.set k false } ∧ Keeps (Fp p) w w4) := Hid.of (by
        rw [← hw4]
        exact And.intro (HH3.out.1.next (C.N + 1)) (HH3.out.2.setCell _ _ (.inl (.inl rfl))))
      clear t3
      go_wp2
      go_ret2
      exact ⟨rfl, HF.out⟩
end Ca
end Go.Proofs.YtagmkkddjdlncaaDoor

/-! The caps package's walks: Grant, Restrict. -/
namespace Go.Proofs.YtagmkkddjdlncaaDoor
open Go.RowKit Go.ChangeMaps
namespace Ca
def grant (C : Cp) (a : Int) : (Nat × Int) × Cp := if a < 0 then ((0, 12), C) else putA C a 7
set_option maxRecDepth 100000 in
set_option maxHeartbeats 1000000 in
theorem grant_any (w : World) (p : Pl) (C : Cp) (a : Int) (H : At w p C) (ok : Ok C) (hT : Sh.Tab w) :
    Calls Tryd.prog 47 #[.pointer (some ⟨p.c, 0, none⟩), .int .i64 a] w (PutR w p (grant C a).1.1 (grant C a).1.2 (grant C a).2) := by
  by_cases h : a < 0
  · have e : grant C a = ((0, 12), C) := by unfold grant; rw [if_pos h]
    rw [e]
    clear e
    go_enter Tryd.func47, Tryd.ntmps47
    go_wp2
    go_ret2
    exact ⟨rfl, H, Keeps.refl _ _⟩
  · have e : grant C a = putA C a 7 := by unfold grant; rw [if_neg h]
    rw [e]
    have q := putA_any w p C a 7 H ok (by omega) (by omega) hT
    have c3 := cell_of (v := .pointer (some ⟨p.s, 0, none⟩)) H.cells 3 rfl
    generalize (putA C a 7).2 = C' at *
    generalize (putA C a 7).1.2 = E at *
    generalize (putA C a 7).1.1 = P at *
    clear e
    go_enter Tryd.func47, Tryd.ntmps47
    go_wp2_with fail
    refine q.mono ?_
    rintro e w1 ⟨rfl, a1, k1⟩
    have HF := Hid.of (And.intro a1 k1)
    clear q a1 k1
    go_wp2
    go_ret2
    exact ⟨rfl, HF.out⟩
def restrict (C : Cp) (h : Nat) (x : Int) : (Nat × Int) × Cp := match fnd C h with
  | none => ((0, 5), C)
  | some y => if x < 1 ∨ 7 < x then ((0, 2), C) else if has y.r x then putB C y.a x.toNat else ((0, 5), C)
set_option maxRecDepth 100000 in
set_option maxHeartbeats 1000000 in
theorem restrict_any (w : World) (p : Pl) (C : Cp) (h : Nat) (x : Int) (H : At w p C) (ok : Ok C) (hh : h < 18446744073709551616) (hT : Sh.Tab w) :
    Calls Tryd.prog 37 #[.pointer (some ⟨p.c, 0, none⟩), .int .u64 h, .int .i64 x] w (PutR w p (restrict C h x).1.1 (restrict C h x).1.2 (restrict C h x).2) := by
  have q := find_any w p C h H hh
  unfold fndV at q
  cases hf : fnd C h with
  | none =>
    have e : restrict C h x = ((0, 5), C) := by unfold restrict; rw [hf]
    rw [e]
    rw [hf] at q
    unfold Slt.enc Slt.zero at q
    dsimp only at q ⊢
    go_enter Tryd.func37, Tryd.ntmps37
    go_wp2_with fail
    refine q.mono ?_
    rintro e w1 ⟨rfl, k1⟩
    have k2 := k1.alloc (.cells #[.int .i64 0, .int .i64 0, .int .i64 0] 86)
    have HF := Hid.of (And.intro (H.old k2) (k2.mono (F := fun _ => False) (G := Fp p) (fun _ _ x => x.elim)))
    clear q k1 k2
    go_wp2
    go_ret2
    exact ⟨rfl, HF.out⟩
  | some y =>
    obtain ⟨yr, yn, ya⟩ := y
    rw [hf] at q
    unfold Slt.enc at q
    dsimp only at q
    have hk : x < 1 ∨ (1 ≤ x ∧ 7 < x) ∨ (1 ≤ x ∧ x ≤ 7) := by omega
    rcases hk with h1 | ⟨h1, h2⟩ | ⟨h1, h2⟩
    · have e : restrict C h x = ((0, 2), C) := by unfold restrict; rw [hf]; dsimp only; rw [if_pos (by omega)]
      rw [e]
      clear e hf
      go_enter Tryd.func37, Tryd.ntmps37
      go_wp2_with fail
      refine q.mono ?_
      rintro e w1 ⟨rfl, k1⟩
      have k2 := k1.alloc (.cells #[.int .i64 yr, .int .i64 yn, .int .i64 ya] 86)
      have HF := Hid.of (And.intro (H.old k2) (k2.mono (F := fun _ => False) (G := Fp p) (fun _ _ x => x.elim)))
      clear q k1 k2
      go_wp2
      go_ret2
      exact ⟨rfl, HF.out⟩
    · have e : restrict C h x = ((0, 2), C) := by unfold restrict; rw [hf]; dsimp only; rw [if_pos (by omega)]
      rw [e]
      clear e hf
      go_enter Tryd.func37, Tryd.ntmps37
      go_wp2_with fail
      refine q.mono ?_
      rintro e w1 ⟨rfl, k1⟩
      have k2 := k1.alloc (.cells #[.int .i64 yr, .int .i64 yn, .int .i64 ya] 86)
      have HF := Hid.of (And.intro (H.old k2) (k2.mono (F := fun _ => False) (G := Fp p) (fun _ _ x => x.elim)))
      clear q k1 k2
      go_wp2
      go_ret2
      exact ⟨rfl, HF.out⟩
    · have e : restrict C h x = if has yr x then putB C ya x.toNat else ((0, 5), C) := by unfold restrict; rw [hf]; dsimp only; rw [if_neg (by omega)]
      rw [e]
      clear e hf
      obtain ⟨x, rfl⟩ : ∃ z : Nat, x = z := ⟨x.toNat, by omega⟩
      rw [Int.toNat_natCast]
      cases hb : has yr x
      · rw [if_neg (by simp)]
        go_enter Tryd.func37, Tryd.ntmps37
        go_wp2_with fail
        refine q.mono ?_
        rintro e w1 ⟨rfl, k1⟩
        obtain ⟨A, hA⟩ : ∃ A, w1.heap.size = A := ⟨_, rfl⟩
        obtain ⟨w2, hw2⟩ : ∃ w2, w1.alloc (.cells #[.int .i64 yr, .int .i64 yn, .int .i64 ya] 86) = w2 := ⟨_, rfl⟩
        have k2 : Keeps (fun _ => False) w1 w2 := by rw [← hw2]; exact (Keeps.refl _ _).alloc _
        have ha2 : w2.heap[A]? = some (.cells #[.int .i64 yr, .int .i64 yn, .int .i64 ya] 86 (0, 0)) := by rw [← hw2, ← hA]; exact alloc_new _ _
        have c0 := cell_of (v := .int .i64 yr) ha2 0 rfl
        have c1 := cell_of (v := .int .i64 yn) ha2 1 rfl
        have q2 := may_any w2 yr yn x
        rw [hb] at q2
        have HK := Hid.of (k1.trans k2)
        clear q k1 k2 ha2 hb
        go_wp2_with fail
        refine q2.mono ?_
        rintro e w3 ⟨rfl, k3⟩
        have HF := Hid.of (And.intro (H.old (HK.out.trans k3)) ((HK.out.trans k3).mono (F := fun _ => False) (G := Fp p) (fun _ _ x => x.elim)))
        clear q2 k3
        go_wp2
        go_ret2
        exact ⟨rfl, HF.out⟩
      · rw [if_pos rfl]
        have qp := fun w k H => putB_any w p C ya x (k : At w p C) ok (by omega) (by omega) H
        generalize (putB C ya x).2 = C' at *
        generalize (putB C ya x).1.2 = E at *
        generalize (putB C ya x).1.1 = P at *
        go_enter Tryd.func37, Tryd.ntmps37
        go_wp2_with fail
        refine q.mono ?_
        rintro e w1 ⟨rfl, k1⟩
        obtain ⟨A, hA⟩ : ∃ A, w1.heap.size = A := ⟨_, rfl⟩
        obtain ⟨w2, hw2⟩ : ∃ w2, w1.alloc (.cells #[.int .i64 yr, .int .i64 yn, .int .i64 ya] 86) = w2 := ⟨_, rfl⟩
        have k2 : Keeps (fun _ => False) w1 w2 := by rw [← hw2]; exact (Keeps.refl _ _).alloc _
        have ha2 : w2.heap[A]? = some (.cells #[.int .i64 yr, .int .i64 yn, .int .i64 ya] 86 (0, 0)) := by rw [← hw2, ← hA]; exact alloc_new _ _
        have c0 := cell_of (v := .int .i64 yr) ha2 0 rfl
        have c1 := cell_of (v := .int .i64 yn) ha2 1 rfl
        have q2 := may_any w2 yr yn x
        rw [hb] at q2
        have HNA : Hid (¬ Fp p A) := Hid.of (fun hx => by have := H.lt hx; have := k1.size; omega)
        have HK := Hid.of (And.intro (k1.trans k2) ha2)
        clear q k1 k2 ha2 hb
        go_wp2_with fail
        refine q2.mono ?_
        rintro e w3 ⟨rfl, k3⟩
        have K3 := HK.out.1.trans k3
        have H3 := H.old K3
        have d2 := cell_of (v := .int .i64 ya) (k3.at HK.out.2 (fun x => x)) 2 rfl
        have e4 := cell_of (v := .pointer (some ⟨p.u, 0, none⟩)) H3.cells 4 rfl
        have qq := qp w3.drew (H3.old ((Keeps.refl _ _).drew)) ((hT.old K3).old ((Keeps.refl _ _).drew))
        have HK3 := Hid.of K3
        have HA3 := Hid.of (k3.at HK.out.2 (fun x => x))
        clear q2 k3 K3 H3 qp c0 c1
        go_wp2
        go_region_held3 (fun wx => wx.cell? ⟨A, 2, none⟩ = some (.int .i64 ya) ∧ wx.cell? ⟨p.c, 4, none⟩ = some (.pointer (some ⟨p.u, 0, none⟩)))
          (first | exact ⟨d2, e4⟩ | exact ⟨d2', e4'⟩)
          (first
            | (go_at_call 50; refine qq.mono ?_; rintro e w5 ⟨rfl, a5, k5⟩; have HF := Hid.of (And.intro a5 ((HK3.out.mono (F := fun _ => False) (G := Fp p) (fun _ _ x => x.elim)).trans k5.of_drew)); have d2' := cell_of (v := .int .i64 ya) (k5.of_drew.at HA3.out HNA.out) 2 rfl; have e4' := cell_of (v := .pointer (some ⟨p.u, 0, none⟩)) a5.cells 4 rfl; clear a5 k5))
        go_wp2
        go_ret2
        exact ⟨rfl, HF.out⟩
end Ca
end Go.Proofs.YtagmkkddjdlncaaDoor

/-! The caps package's walk: Revoke. -/
namespace Go.Proofs.YtagmkkddjdlncaaDoor
open Go.RowKit Go.ChangeMaps
namespace Ca
/-- A slot is taken back, if it is the object's. -/
def revAt (C : Cp) (a : Int) (k : Nat) : Cp := match eget C.E (k : Int) with
  | some x => if x.a = a then (if k < 4096 then { C with E := edel C.E (k : Int), A := Sh.giveS C.A (k : Int) } else { C with E := edel C.E (k : Int), B := Sh.giveS C.B ((k : Int) - 4096) }) else C
  | none => C
def revTo (C : Cp) (a : Int) : Nat → Cp
  | 0 => C
  | k + 1 => revAt (revTo C a k) a k
def revoke (C : Cp) (a : Int) : Cp := revTo C a 4160
set_option maxRecDepth 100000 in
def rvFrame (x0 x1 x5 x6 : Value) (u : Nat → Value) : Act := { tmps := #[x0, x1, u 2, u 3, u 4, x5, x6, u 7, u 8, u 9, u 10, u 11, u 12, u 13, u 14, u 15, u 16, u 17, u 18, u 19, u 20, u 21, u 22, u 23, u 24, u 25, u 26, u 27, u 28, u 29, u 30, u 31, u 32, u 33, u 34, u 35, u 36, u 37, u 38, u 39, u 40, u 41, u 42, u 43, u 44, u 45, u 46, u 47, u 48, u 49, u 50, u 51, u 52, u 53], defers := [] }
set_option maxRecDepth 100000 in
theorem rvFrame_is (v0 v1 v2 v3 v4 v5 v6 v7 v8 v9 v10 v11 v12 v13 v14 v15 v16 v17 v18 v19 v20 v21 v22 v23 v24 v25 v26 v27 v28 v29 v30 v31 v32 v33 v34 v35 v36 v37 v38 v39 v40 v41 v42 v43 v44 v45 v46 v47 v48 v49 v50 v51 v52 v53 : Value) : ({ tmps := #[v0, v1, v2, v3, v4, v5, v6, v7, v8, v9, v10, v11, v12, v13, v14, v15, v16, v17, v18, v19, v20, v21, v22, v23, v24, v25, v26, v27, v28, v29, v30, v31, v32, v33, v34, v35, v36, v37, v38, v39, v40, v41, v42, v43, v44, v45, v46, v47, v48, v49, v50, v51, v52, v53], defers := [] } : Act) = rvFrame v0 v1 v5 v6 (fun i => #[v0, v1, v2, v3, v4, v5, v6, v7, v8, v9, v10, v11, v12, v13, v14, v15, v16, v17, v18, v19, v20, v21, v22, v23, v24, v25, v26, v27, v28, v29, v30, v31, v32, v33, v34, v35, v36, v37, v38, v39, v40, v41, v42, v43, v44, v45, v46, v47, v48, v49, v50, v51, v52, v53].getD i undef) := rfl
def RevR (w : World) (p : Pl) (C' : Cp) (e : Ending) (w' : World) : Prop := ∃ n : Int, e = .returned (.int .i64 n) ∧ At w' p C' ∧ Keeps (Fp p) w w'
set_option maxRecDepth 100000 in
set_option maxHeartbeats 800000 in
theorem revoke_any (w : World) (p : Pl) (C : Cp) (a : Int) (H : At w p C) :
    Calls Tryd.prog 49 #[.pointer (some ⟨p.c, 0, none⟩), .int .i64 a] w (RevR w p (revoke C a)) := by
  go_enter Tryd.func49, Tryd.ntmps49
  go_wp2
  refine wp_scope_once 0 (fun m a' w' => ∃ (k : Nat) (n : Int) (u : Nat → Value), m = 4160 - k ∧ k ≤ 4160 ∧ 0 ≤ n ∧ n ≤ k ∧ a' = rvFrame (.pointer (some ⟨p.c, 0, none⟩)) (.int .i64 a) (.int .i64 n) (.int .i64 k) u ∧ Hid (At w' p (revTo C a k) ∧ Keeps (Fp p) w w')) rfl ?_ ?_
  · rintro m a' w' ⟨k, n, u, rfl, hk, hn0, hnk, hf, HH⟩
    unfold rvFrame at hf
    subst hf
    by_cases hlt : k < 4160
    · have hd : decide (4160 ≤ k) = false := by simp; omega
      have hki : (k : Int) < 4160 := by omega
      have H0 := HH.out.1
      have lk := H0.map.look_ok (P := Tryd.prog) 3 Tryd.underlying78 Tryd.underlying3 (k : Int) (z := Slt.zero) (zero_slot _)
      have m0 := cell_of (v := .map (some p.m)) H0.cells 2 rfl
      cases hx : eget (revTo C a k).E (k : Int) with
      | none =>
        have hs : revTo C a (k + 1) = revTo C a k := by show revAt _ _ _ = _; unfold revAt; rw [hx]
        have HF : Hid (At (w'.alloc (.cells #[.int .i64 0, .int .i64 0, .int .i64 0] 86)) p (revTo C a (k + 1)) ∧ Keeps (Fp p) w (w'.alloc (.cells #[.int .i64 0, .int .i64 0, .int .i64 0] 86))) := Hid.of (by
          rw [hs]
          exact And.intro (H0.old ((Keeps.refl _ _).alloc _)) (HH.out.2.alloc _))
        rw [hx] at lk
        have exr : (none : Option Slt).getD Slt.zero = ⟨0, 0, 0⟩ := rfl
        have exi : (none : Option Slt).isSome = false := rfl
        rw [exr, exi] at lk
        unfold Slt.enc at lk
        dsimp only at lk
        clear hx hs H0 HH exr exi hlt
        go_wp2
        go_step3
        rw [show ((k : Int) + 1) = ((k + 1 : Nat) : Int) by omega]
        exact ⟨rfl, 4160 - (k + 1), by omega, k + 1, n, _, rfl, by omega, hn0, by omega, rvFrame_is .., HF⟩
      | some x =>
        obtain ⟨xr, xn, xa⟩ := x
        rw [hx] at lk
        have exr : (some (⟨xr, xn, xa⟩ : Slt)).getD Slt.zero = ⟨xr, xn, xa⟩ := rfl
        have exi : (some (⟨xr, xn, xa⟩ : Slt)).isSome = true := rfl
        rw [exr, exi] at lk
        unfold Slt.enc at lk
        dsimp only at lk
        obtain ⟨A, hA⟩ : ∃ A, w'.heap.size = A := ⟨_, rfl⟩
        obtain ⟨w1, hw1⟩ : ∃ w1, w'.alloc (.cells #[.int .i64 xr, .int .i64 xn, .int .i64 xa] 86) = w1 := ⟨_, rfl⟩
        have k1 : Keeps (fun _ => False) w' w1 := by rw [← hw1]; exact (Keeps.refl _ _).alloc _
        have ha1 : w1.heap[A]? = some (.cells #[.int .i64 xr, .int .i64 xn, .int .i64 xa] 86 (0, 0)) := by rw [← hw1, ← hA]; exact alloc_new _ _
        have c2 := cell_of (v := .int .i64 xa) ha1 2 rfl
        have H1 := H0.old k1
        have K1 : Keeps (Fp p) w w1 := HH.out.2.trans (k1.mono (F := fun _ => False) (G := Fp p) (fun _ _ x => x.elim))
        by_cases hxa : xa = a
        · have he : (xa == a) = true := by simpa using hxa
          obtain ⟨w2, dl, M2, k2⟩ := H1.map.del (P := Tryd.prog) (ty := 0) 3 Tryd.underlying78 Tryd.underlying3 (k : Int)
          have H2 := H1.mapped (C' := { revTo C a k with E := edel (revTo C a k).E (k : Int) }) M2 k2 rfl rfl rfl rfl
          have K2 := K1.trans (k2.mono (fun x _ hx => (.inr (.inl hx) : Fp p x)))
          have m1 := cell_of (v := .map (some p.m)) H1.cells 2 rfl
          have hinc : wrap64 (n + 1) = n + 1 := by unfold wrap64; omega
          by_cases hk4 : k < 4096
          · have hk4i : (k : Int) < 4096 := by omega
            have q := Sh.give_any w2 p.s p.v (revTo C a k).A (k : Int) H2.sa
            have e3 := cell_of (v := .pointer (some ⟨p.s, 0, none⟩)) H2.cells 3 rfl
            have hs : revTo C a (k + 1) = { revTo C a k with E := edel (revTo C a k).E (k : Int), A := Sh.giveS (revTo C a k).A (k : Int) } := by show revAt _ _ _ = _; unfold revAt; rw [hx]; dsimp only; rw [if_pos hxa, if_pos hk4]
            have HS := Hid.of hs
            have HH2 := Hid.of (And.intro H2 K2)
            clear hx hs H0 HH exr exi hlt k1 ha1 H1 K1 M2 k2 H2 K2 hxa
            go_wp2_with fail
            refine q.mono ?_
            rintro e w3 ⟨rfl, a3, k3⟩
            have HF : Hid (At w3 p (revTo C a (k + 1)) ∧ Keeps (Fp p) w w3) := Hid.of (by
              rw [HS.out]
              exact And.intro (HH2.out.1.shelfA a3 k3 rfl) (HH2.out.2.trans (k3.mono (fun x _ hx => (.inr (.inr (.inl hx)) : Fp p x)))))
            clear q a3 k3
            go_wp2
            go_step3
            rw [show ((k : Int) + 1) = ((k + 1 : Nat) : Int) by omega]
            exact ⟨rfl, 4160 - (k + 1), by omega, k + 1, n + 1, _, rfl, by omega, by omega, by omega, rvFrame_is .., HF⟩
          · have hk4i : decide (k < 4096) = false := by simp; omega
            obtain ⟨z, hz⟩ : ∃ z : Int, (k : Int) - 4096 = z := ⟨_, rfl⟩
            have hzb : 0 ≤ z ∧ z ≤ 64 := by omega
            have hwz : wrap64 z = z := by unfold wrap64; omega
            have q := Sh.give_any w2 p.u p.x (revTo C a k).B z H2.sb
            have e3 := cell_of (v := .pointer (some ⟨p.u, 0, none⟩)) H2.cells 4 rfl
            have hs : revTo C a (k + 1) = { revTo C a k with E := edel (revTo C a k).E (k : Int), B := Sh.giveS (revTo C a k).B z } := by rw [← hz]; show revAt _ _ _ = _; unfold revAt; rw [hx]; dsimp only; rw [if_pos hxa, if_neg hk4]
            have HS := Hid.of hs
            have HH2 := Hid.of (And.intro H2 K2)
            clear hx hs H0 HH exr exi hlt k1 ha1 H1 K1 M2 k2 H2 K2 hxa
            go_wp2_with fail
            refine q.mono ?_
            rintro e w3 ⟨rfl, a3, k3⟩
            have HF : Hid (At w3 p (revTo C a (k + 1)) ∧ Keeps (Fp p) w w3) := Hid.of (by
              rw [HS.out]
              exact And.intro (HH2.out.1.shelfB a3 k3 rfl) (HH2.out.2.trans (k3.mono (fun x _ hx => (.inr (.inr (.inr hx)) : Fp p x)))))
            clear q a3 k3
            go_wp2
            go_step3
            rw [show ((k : Int) + 1) = ((k + 1 : Nat) : Int) by omega]
            exact ⟨rfl, 4160 - (k + 1), by omega, k + 1, n + 1, _, rfl, by omega, by omega, by omega, rvFrame_is .., HF⟩
        · have he : (xa == a) = false := by simpa using hxa
          have hs : revTo C a (k + 1) = revTo C a k := by show revAt _ _ _ = _; unfold revAt; rw [hx]; dsimp only; rw [if_neg hxa]
          have HF : Hid (At w1 p (revTo C a (k + 1)) ∧ Keeps (Fp p) w w1) := Hid.of (by
            rw [hs]
            exact And.intro H1 K1)
          clear hx hs H0 HH exr exi hlt k1 ha1 H1 K1 hxa
          go_wp2
          go_step3
          rw [show ((k : Int) + 1) = ((k + 1 : Nat) : Int) by omega]
          exact ⟨rfl, 4160 - (k + 1), by omega, k + 1, n, _, rfl, by omega, hn0, by omega, rvFrame_is .., HF⟩
    · obtain rfl : k = 4160 := by omega
      have HF : Hid (At w' p (revoke C a) ∧ Keeps (Fp p) w w') := HH
      clear HH
      go_wp2
      simp only [Exit.jump]
      go_ret
      exact ⟨_, rfl, HF.out⟩
  · intro hr
    go_wp2
    go_step3
    refine (by assumption : ∀ (a : Act) (w : World), Code.wp _ _ _ a w → _) _ _ ?_
    exact hr _ _ _ ⟨0, 0, _, rfl, by omega, by omega, by omega, rvFrame_is .., Hid.of (And.intro H (Keeps.refl _ _))⟩
end Ca
end Go.Proofs.YtagmkkddjdlncaaDoor

/-! The caps package's walk: Copy; maps.Clone at its map. -/
namespace Go.Proofs.YtagmkkddjdlncaaDoor
open Go.RowKit Go.ChangeMaps

set_option maxRecDepth 100000 in
set_option maxHeartbeats 1000000 in
theorem clone_slot (w : World) (r : Nat) (es : Array MapEntry) (cl : Nat) (hb : w.heap[r]? = some (.map es cl)) :
    Calls Tryd.prog 38 #[.map (some r)] w fun e w' => e = .returned (.map (some w.heap.size)) ∧ w' = w.alloc (.map es cl) := by
  have hq := fun w => run_eql_map_nil_sl (P := Tryd.prog) w 78 _ _ (some r) Tryd.underlying78
  go_enter Tryd.func38, Tryd.ntmps38
  go_wp2
  rw [run_callFunc_extern Tryd.func40 (by kernel_rfl) (by kernel_rfl) (by kernel_rfl) (e := Extern.MapsClone.clone) (by kernel_rfl), run_maps_clone_sl w 78 hb]
  simp only [Result.andThen]
  rw [Oper.upon_value]
  go_wp2
  rw [run_typeAssert_map_sl _ 78 20 _ _ _ Tryd.underlying78]
  simp only [Result.andThen]
  rw [Oper.upon_value]
  go_wp2
  go_ret
  exact ⟨rfl, rfl⟩
namespace Ca
def CloneR (w : World) (E : List (Int × Slt)) (e : Ending) (w' : World) : Prop := ∃ m, e = .returned (.map (some m)) ∧ EMap Slt.enc w' m E ∧ m = w.heap.size ∧ Keeps (fun _ => False) w w'
theorem clone_any (w : World) (m : Nat) (E : List (Int × Slt)) (h : EMap Slt.enc w m E) :
    Calls Tryd.prog 38 #[.map (some m)] w (CloneR w E) := by
  obtain ⟨es, cl, hb, hs, hl⟩ := h
  refine (clone_slot w m es cl hb).mono ?_
  rintro e w' ⟨rfl, rfl⟩
  exact ⟨_, rfl, ⟨es, cl, alloc_new _ _, hs, hl⟩, rfl, (Keeps.refl _ _).alloc _⟩
def CopyR (w : World) (C : Cp) (e : Ending) (w' : World) : Prop := ∃ p : Pl, e = .returned (.pointer (some ⟨p.c, 0, none⟩)) ∧ At w' p C ∧ (∀ x, Fp p x → w.heap.size ≤ x) ∧ Keeps (fun _ => False) w w'
set_option maxRecDepth 100000 in
set_option maxHeartbeats 8000000 in
theorem copy_any (w : World) (p : Pl) (C : Cp) (H : At w p C) (hT : Sh.Tab w) :
    Calls Tryd.prog 20 #[.pointer (some ⟨p.c, 0, none⟩)] w (CopyR w C) := by
  have q1 := clone_any w.drew p.m C.E H.map.drew
  have c0 := cell_of (v := .int .i64 C.T) H.cells 0 rfl
  have c1 := cell_of (v := .int .i64 C.N) H.cells 1 rfl
  have c2 := cell_of (v := .map (some p.m)) H.cells 2 rfl
  have c3 := cell_of (v := .pointer (some ⟨p.s, 0, none⟩)) H.cells 3 rfl
  have c4 := cell_of (v := .pointer (some ⟨p.u, 0, none⟩)) H.cells 4 rfl
  have HH := Hid.of H
  have hg := Hid.of hT.lt
  clear H hT
  go_enter Tryd.func20, Tryd.ntmps20
  go_wp2
  go_region_held3 (fun wx => wx.cell? ⟨p.c, 0, none⟩ = some (.int .i64 C.T) ∧ wx.cell? ⟨p.c, 1, none⟩ = some (.int .i64 C.N) ∧ wx.cell? ⟨p.c, 2, none⟩ = some (.map (some p.m)) ∧ wx.cell? ⟨p.c, 3, none⟩ = some (.pointer (some ⟨p.s, 0, none⟩)) ∧ wx.cell? ⟨p.c, 4, none⟩ = some (.pointer (some ⟨p.u, 0, none⟩)))
    (first | exact ⟨c0, c1, c2, c3, c4⟩ | exact ⟨cell_of H1.cells 0 rfl, cell_of H1.cells 1 rfl, cell_of H1.cells 2 rfl, cell_of H1.cells 3 rfl, cell_of H1.cells 4 rfl⟩ | exact ⟨cell_of H2.cells 0 rfl, cell_of H2.cells 1 rfl, cell_of H2.cells 2 rfl, cell_of H2.cells 3 rfl, cell_of H2.cells 4 rfl⟩ | exact ⟨cell_of H3.cells 0 rfl, cell_of H3.cells 1 rfl, cell_of H3.cells 2 rfl, cell_of H3.cells 3 rfl, cell_of H3.cells 4 rfl⟩ | exact ⟨cell_of H4.cells 0 rfl, cell_of H4.cells 1 rfl, cell_of H4.cells 2 rfl, cell_of H4.cells 3 rfl, cell_of H4.cells 4 rfl⟩)
    (first
      | (go_at_call 38; refine q1.mono ?_; rintro e w1 ⟨m', rfl, mm, em, k1⟩; have EM := Hid.of em; clear em; have H1 := HH.out.old k1.of_drew; have q2 := Sh.copy_any w1 p.s p.v C.A H1.sa)
      | (go_at_call 39; refine q2.mono ?_; clear q2; rintro e w2 ⟨s', v', rfl, a2, f2, k2⟩; have H2 := H1.old k2; have q3 := Sh.copy_any w2 p.u p.x C.B H2.sb)
      | (go_at_call 39; refine q3.mono ?_; clear q3; rintro e w3 ⟨u', x', rfl, b3, f3, k3⟩; have H3 := H2.old k3; have H4 := H3.old ((Keeps.refl (fun _ => False) w3).alloc (.cells #[.int .i64 C.T, .int .i64 C.N, .map (some m'), .pointer (some ⟨s', 0, none⟩), .pointer (some ⟨u', 0, none⟩)] 81))))
  go_wp2
  go_ret
  have k4 : Keeps (fun _ => False) w3 (w3.alloc (.cells #[.int .i64 C.T, .int .i64 C.N, .map (some m'), .pointer (some ⟨s', 0, none⟩), .pointer (some ⟨u', 0, none⟩)] 81)) := (Keeps.refl _ _).alloc _
  have c4' := alloc_new w3 (.cells #[.int .i64 C.T, .int .i64 C.N, .map (some m'), .pointer (some ⟨s', 0, none⟩), .pointer (some ⟨u', 0, none⟩)] 81)
  generalize w3.alloc (.cells #[.int .i64 C.T, .int .i64 C.N, .map (some m'), .pointer (some ⟨s', 0, none⟩), .pointer (some ⟨u', 0, none⟩)] 81) = w4 at *
  have z1 : w.heap.size ≤ w1.heap.size := k1.size
  have z2 := k2.size
  have z3 := k3.size
  have em' : m' = w.heap.size := EM.out
  have hm1 := mm.lt
  have hg' := hg.out
  have la : ∀ i, Sh.Fp s' v' i → w1.heap.size ≤ i ∧ i < w2.heap.size := fun i hi => ⟨f2 i hi, a2.lt hi⟩
  have lb : ∀ i, Sh.Fp u' x' i → w2.heap.size ≤ i ∧ i < w3.heap.size := fun i hi => ⟨f3 i hi, b3.lt hi⟩
  obtain ⟨c', hc'⟩ : ∃ c', w3.heap.size = c' := ⟨_, rfl⟩
  rw [hc'] at c4' ⊢
  refine ⟨⟨c', m', s', u', v', x'⟩, rfl, ⟨c4', ((mm.keep k2 (fun x => x)).keep k3 (fun x => x)).keep k4 (fun x => x), (a2.old k3).old k4, b3.old k4, ?_, ?_, ?_, ?_, ?_, ?_, ?_⟩, ?_, ((k1.of_drew.trans k2).trans k3).trans k4⟩
  · show c' ≠ m'; omega
  · intro h; have h' := la _ h; simp only at h'; omega
  · intro h; have h' := lb _ h; simp only at h'; omega
  · intro h; have h' := la _ h; simp only at h'; omega
  · intro h; have h' := lb _ h; simp only at h'; omega
  · intro i hi hj; have h1 := la i hi; have h2 := lb i hj; omega
  · rintro (h | h | h | h)
    · simp only at h; omega
    · simp only at h; omega
    · have := la _ h; omega
    · have := lb _ h; omega
  · rintro i (h | h | h | h)
    · simp only at h; omega
    · simp only at h; omega
    · have := la _ h; omega
    · have := lb _ h; omega
end Ca
end Go.Proofs.YtagmkkddjdlncaaDoor
