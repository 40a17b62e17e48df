/- The model in memory; its walks Free, Charged, Object. -/
import Derived.Test.YtagmkkddjdlncaaDoorMoS
import Derived.Test.YtagmkkddjdlncaaDoorMoO
set_option linter.unusedVariables false
set_option linter.unusedSimpArgs false
namespace Go.Proofs.YtagmkkddjdlncaaDoor
open Go.RowKit Go.ChangeMaps
namespace Mo
/-- Where the parts lie. -/
structure Pls where
  pl : Nat → Plc
  gg : Nat → Int → Nat
def ptr (M : MM) (p : Pls) (i : Nat) : Option Addr := (M.T i).map fun _ => ⟨(p.pl i).b, 0, none⟩
def MFp (m : Nat) (M : MM) (p : Pls) (x : Nat) : Prop := x = m ∨ ∃ i, i < 8 ∧ ∃ P, M.T i = some P ∧ Fp (p.pl i) (p.gg i) P.E x
structure MAt (w : World) (m : Nat) (M : MM) (p : Pls) : Prop where
  cells : w.heap[m]? = some (.cells (md M.Pg M.C (fun i => .pointer (ptr M p i)) (fun i => (M.s i : Int))) 51 (0, 0))
  part : ∀ i, i < 8 → ∀ P, M.T i = some P → PAt w (p.pl i) (p.gg i) P
  nm : ∀ i, i < 8 → ∀ P, M.T i = some P → ¬ Fp (p.pl i) (p.gg i) P.E m
  apart : ∀ i j, i < 8 → j < 8 → i ≠ j → ∀ P Q, M.T i = some P → M.T j = some Q → ∀ x, Fp (p.pl i) (p.gg i) P.E x → ¬ Fp (p.pl j) (p.gg j) Q.E x
  off : m ≠ 0
/-- What a step of a model leaves. -/
def MR (w : World) (m : Nat) (M : MM) (p : Pls) (M' : MM) (w' : World) : Prop := ∃ p', MAt w' m M' p' ∧ Keeps (MFp m M p) w w' ∧ ∀ x, MFp m M' p' x → MFp m M p x ∨ w.heap.size ≤ x
theorem MAt.keep {F : Nat → Prop} {w w' : World} {m : Nat} {M : MM} {p : Pls} (h : MAt w m M p) (k : Keeps F w w') (hf : ∀ x, MFp m M p x → ¬ F x) : MAt w' m M p :=
  { h with
    cells := k.at h.cells (hf _ (.inl rfl))
    part := fun i hi P hP => (h.part i hi P hP).keep k (fun x hx => hf x (.inr ⟨i, hi, P, hP, hx⟩)) }
theorem MAt.old {w w' : World} {m : Nat} {M : MM} {p : Pls} (h : MAt w m M p) (k : Keeps (fun _ => False) w w') : MAt w' m M p := h.keep k (fun _ _ x => x)
theorem MAt.lt {w : World} {m : Nat} {M : MM} {p : Pls} (h : MAt w m M p) {x : Nat} (hx : MFp m M p x) : x < w.heap.size := by
  rcases hx with rfl | ⟨i, hi, P, hP, hx⟩
  · exact lt_of h.cells
  · exact (h.part i hi P hP).lt hx
theorem MR.refl {w w' : World} {m : Nat} {M : MM} {p : Pls} (h : MAt w m M p) (k : Keeps (fun _ => False) w w') : MR w m M p M w' := ⟨p, h.old k, k.mono (fun _ _ x => x.elim), fun _ hx => .inl hx⟩
theorem MAt.tab {w w' : World} {m : Nat} {M : MM} {p : Pls} (h : MAt w m M p) (hT : Sh.Tab w) (k : Keeps (MFp m M p) w w') : Sh.Tab w' := hT.keep k (by
  rintro (e | ⟨i, hi, P, hP, hx⟩)
  · exact h.off e.symm
  · exact (h.part i hi P hP).off hx)
theorem idx8 (q : Nat → Value) (hq : ∀ i, ∃ a, q i = .pointer a) {k : Nat} (hk : k < 8) (w : World) : (Instr.index 48 (.agg #[q 0, q 1, q 2, q 3, q 4, q 5, q 6, q 7]) (.int .i64 k)).run Tryd.prog w = .ok (q k) w := by
  obtain ⟨a0, e0⟩ := hq 0
  obtain ⟨a1, e1⟩ := hq 1
  obtain ⟨a2, e2⟩ := hq 2
  obtain ⟨a3, e3⟩ := hq 3
  obtain ⟨a4, e4⟩ := hq 4
  obtain ⟨a5, e5⟩ := hq 5
  obtain ⟨a6, e6⟩ := hq 6
  obtain ⟨a7, e7⟩ := hq 7
  rcases Cl.eight_cases hk with rfl | rfl | rfl | rfl | rfl | rfl | rfl | rfl
  all_goals
    rw [e0, e1, e2, e3, e4, e5, e6, e7]
    kernel_rfl
theorem chargedM_any (w : World) (m : Nat) (M : MM) (p : Pls) (i : Nat) (hi : i < 8) (H : MAt w m M p) (ok : MOk M) :
    Calls Tryd.prog 13 #[.pointer (some ⟨m, 0, none⟩), .int .i64 i] w fun e w' => e = .returned (.int .i64 (charged M i)) ∧ Keeps (fun _ => False) w w' := by
  have q := at_any w m M.Pg M.C (ptr M p) (fun i => (M.s i : Int)) (i : Int) H.cells
  have e1 : prt (ptr M p) (i : Int) = ptr M p i := by unfold prt; rw [if_pos (by omega), Int.toNat_natCast]
  rw [e1] at q
  cases hP : M.T i with
  | none =>
    have e2 : ptr M p i = none := by unfold ptr; rw [hP]; rfl
    have e3 : charged M i = 0 := by unfold charged; rw [hP]
    rw [e2] at q
    rw [e3]
    have q2 := chargedp_nil w
    clear e1 e2 e3 hP H ok
    go_enter Tryd.func13, Tryd.ntmps13
    go_wp2_with fail
    refine q.mono ?_
    rintro e w1 ⟨rfl, rfl⟩
    clear q
    go_wp2_with fail
    refine q2.mono ?_
    rintro e w1 ⟨rfl, rfl⟩
    clear q2
    go_wp2
    go_ret
    exact ⟨rfl, Keeps.refl _ _⟩
  | some P =>
    have e2 : ptr M p i = some ⟨(p.pl i).b, 0, none⟩ := by unfold ptr; rw [hP]; rfl
    have e3 : charged M i = sum P.E := by unfold charged; rw [hP]
    rw [e2] at q
    rw [e3]
    have oP := (ok.part i hi P hP).1
    have q2 := charged_any w (p.pl i) (p.gg i) P (H.part i hi P hP) (by have := oP.sum; have := oP.q; omega)
    generalize sum P.E = S at *
    clear e1 e2 e3 hP H ok oP
    go_enter Tryd.func13, Tryd.ntmps13
    go_wp2_with fail
    refine q.mono ?_
    rintro e w1 ⟨rfl, rfl⟩
    clear q
    go_wp2_with fail
    refine q2.mono ?_
    rintro e w1 ⟨rfl, k1⟩
    have HK := Hid.of k1
    clear q2 k1
    go_wp2
    go_ret
    exact ⟨rfl, HK.out⟩
set_option maxRecDepth 100000 in
set_option maxHeartbeats 2000000 in
theorem free_any (w : World) (m : Nat) (M : MM) (p : Pls) (H : MAt w m M p) (ok : MOk M) :
    Calls Tryd.prog 14 #[.pointer (some ⟨m, 0, none⟩)] w fun e w' => e = .returned (.int .i64 (free M)) ∧ w = w' := by
  have hx := fun (k : Nat) (hk : k < 8) (w : World) => idx8 (fun i => .pointer (ptr M p i)) (fun i => ⟨_, rfl⟩) hk w
  have HX := Hid.of hx
  have c1 := cell_of (v := .int .i64 M.C) H.cells 1 rfl
  have p0 := cell_of (v := .pointer (ptr M p 0)) H.cells 2 rfl
  have p1 := cell_of (v := .pointer (ptr M p 1)) H.cells 3 rfl
  have p2 := cell_of (v := .pointer (ptr M p 2)) H.cells 4 rfl
  have p3 := cell_of (v := .pointer (ptr M p 3)) H.cells 5 rfl
  have p4 := cell_of (v := .pointer (ptr M p 4)) H.cells 6 rfl
  have p5 := cell_of (v := .pointer (ptr M p 5)) H.cells 7 rfl
  have p6 := cell_of (v := .pointer (ptr M p 6)) H.cells 8 rfl
  have p7 := cell_of (v := .pointer (ptr M p 7)) H.cells 9 rfl
  have HH := Hid.of (And.intro H ok)
  clear H ok hx
  go_enter Tryd.func14, Tryd.ntmps14
  go_wp2
  clear p0 p1 p2 p3 p4 p5 p6 p7 c1
  go_loopw [3, 17] (fun v i wr => ∃ k : Nat, k ≤ 8 ∧ i = .int .i64 k ∧ v = .int .i64 (freeTo M k) ∧ wr = w) (fun v i _ => 8 - (intOf i).toNat)
  case atStart => exact ⟨0, by omega, rfl, rfl, rfl⟩
  case round =>
    obtain ⟨k, hk, rfl, rfl, rfl⟩ := hrel
    by_cases hlt : k < 8
    · have hki : (k : Int) < 8 := by omega
      have ix := HX.out k hlt wr
      try dsimp only at ix
      obtain ⟨r1, r2⟩ := free_range HH.out.2 k hk
      have hC := HH.out.2.c
      cases hP : M.T k with
      | none =>
        have e2 : ptr M p k = none := by unfold ptr; rw [hP]; rfl
        have e3 : freeTo M (k + 1) = freeTo M k := by simp only [freeTo, kof, hP]; omega
        rw [e2] at ix
        have E3 := Hid.of e3
        clear hP e2 e3 hlt r1 r2 hC
        go_wp2
        go_roundw
        case rel => exact ⟨k + 1, by omega, by go_num, by rw [E3.out], trivial⟩
        case measure => simp [intOf]; omega
      | some P =>
        have e2 : ptr M p k = some ⟨(p.pl k).b, 0, none⟩ := by unfold ptr; rw [hP]; rfl
        have e3 : freeTo M (k + 1) = freeTo M k - P.k := by simp only [freeTo, kof, hP]
        rw [e2] at ix
        have hpk := (HH.out.2.part k hlt P hP).1.k
        have cP := cell_of (v := .int .i64 P.k) (HH.out.1.part k hlt P hP).cells 1 rfl
        have ws : wrap64 (freeTo M k - P.k) = freeTo M k - P.k := by unfold wrap64; omega
        rw [← e3] at ws
        have E3 := Hid.of e3
        clear hP e2 hlt r1 r2 hC hpk e3
        have ws2 : wrap64 (freeTo M k - P.k) = freeTo M (k + 1) := by rw [← E3.out]; exact ws
        have HW := Hid.of ws2
        clear ws E3 ws2
        go_wp2
        go_roundw
        case rel => exact ⟨k + 1, by omega, by go_num, by rw [HW.out], trivial⟩
        case measure => simp [intOf]; omega
    · obtain rfl : k = 8 := by omega
      go_wp2
      go_ret
      exact ⟨rfl, rfl⟩
end Mo
end Go.Proofs.YtagmkkddjdlncaaDoor
