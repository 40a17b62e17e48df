/- The chain package's walks: lies, New, at, next, Push, Pop, Empty, Take, Move. | The chain package's walks: Pop, Take, lies, Move, New. -/
import Derived.Test.YtnheibcjcgacpaaGreatDoorAren
import Derived.Deep.RegionHeld3
set_option linter.unusedVariables false
set_option linter.unusedSimpArgs false
/-! The chain package's walks: lies, New, at, next, Push, Pop, Empty, Take, Move. -/
namespace Go.Proofs.YtnheibcjcgacpaaGreatDoor
open Go.RowKit Go.ChangeMaps
namespace Ch
structure CS where
  base : Nat
  unit : Nat
  per : Nat
  head : Int
def ccells (a : Nat) (C : CS) : Array Value := #[.pointer (some ⟨a, 0, none⟩), .int .i64 C.base, .int .i64 C.unit, .int .i64 C.per, .int .i64 C.head]
def At (w : World) (c a : Nat) (C : CS) : Prop := w.heap[c]? = some (.cells (ccells a C) 298 (0, 0))
/-- Bounds of a chain's numbers. -/
structure Ok (C : CS) : Prop where
  base : C.base ≤ 2097152
  unit : C.unit ≤ 512
  per : C.per ≤ 64
  head : -1 ≤ C.head ∧ C.head < 64
def loc (C : CS) (k : Nat) : Nat := C.base + k * C.unit
theorem At.five {w : World} {c a : Nat} {C : CS} (h : At w c a C) : w.cell? ⟨c, 0, none⟩ = some (.pointer (some ⟨a, 0, none⟩)) ∧ w.cell? ⟨c, 1, none⟩ = some (.int .i64 C.base) ∧ w.cell? ⟨c, 2, none⟩ = some (.int .i64 C.unit) ∧ w.cell? ⟨c, 3, none⟩ = some (.int .i64 C.per) ∧ w.cell? ⟨c, 4, none⟩ = some (.int .i64 C.head) :=
  ⟨cell_of h 0 rfl, cell_of h 1 rfl, cell_of h 2 rfl, cell_of h 3 rfl, cell_of h 4 rfl⟩
theorem At.head {w : World} {c a : Nat} {C : CS} (h : At w c a C) (x : Int) : w.frozen? ⟨c, 4, none⟩ = false ∧ At (w.setCell ⟨c, 4, none⟩ (.int .i64 x)) c a { C with head := x } ∧ Keeps (fun y => y = c) w (w.setCell ⟨c, 4, none⟩ (.int .i64 x)) :=
  ⟨free_of h 4, set_of h 4 _, (Keeps.refl _ _).setCell _ _ (.inl rfl)⟩
theorem At.based {w : World} {c a : Nat} {C : CS} (h : At w c a C) (x : Nat) : w.frozen? ⟨c, 1, none⟩ = false ∧ At (w.setCell ⟨c, 1, none⟩ (.int .i64 x)) c a { C with base := x } ∧ Keeps (fun y => y = c) w (w.setCell ⟨c, 1, none⟩ (.int .i64 x)) :=
  ⟨free_of h 1, set_of h 1 _, (Keeps.refl _ _).setCell _ _ (.inl rfl)⟩
theorem mul_le {k u : Nat} (h1 : k ≤ 64) (h2 : u ≤ 512) : k * u ≤ 32768 := Nat.le_trans (Nat.mul_le_mul h1 h2) (by omega)
set_option maxRecDepth 100000 in
set_option maxHeartbeats 600000 in
theorem at_any (w : World) (c a : Nat) (C : CS) (k : Nat) (h : At w c a C) (ok : Ok C) (hk : k ≤ 64) :
    Calls Tryz.prog 269 #[.pointer (some ⟨c, 0, none⟩), .int .i64 k] w fun e w' => e = .returned (.int .i64 (loc C k)) ∧ Keeps (fun _ => False) w w' := by
  obtain ⟨c0, c1, c2, c3, c4⟩ := h.five
  have hm := mul_le hk ok.unit
  have hb := ok.base
  unfold loc
  obtain ⟨M, hM⟩ : ∃ M, k * C.unit = M := ⟨_, rfl⟩
  rw [hM] at hm ⊢
  have e1 : (k : Int) * (C.unit : Int) = (M : Int) := by rw [← hM]; simp
  have w1 : wrap64 ((k : Int) * (C.unit : Int)) = (M : Int) := by rw [e1]; unfold wrap64; omega
  have w2 : wrap64 ((C.base : Int) + (M : Int)) = ((C.base + M : Nat) : Int) := by unfold wrap64; omega
  have i1 : IntKind.i64.wrap ((k : Int) * (C.unit : Int)) = (M : Int) := by rw [e1]; exact IntWalk.i64_in _ (by omega)
  have i2 : IntKind.i64.wrap ((C.base : Int) + (M : Int)) = ((C.base + M : Nat) : Int) := by rw [show (C.base : Int) + (M : Int) = ((C.base + M : Nat) : Int) by omega]; exact IntWalk.i64_in _ (by omega)
  clear h ok hm hb hM e1 hk
  go_enter Tryz.func269, Tryz.ntmps269
  go_wp2
  go_quiet (fail)
  go_wp2
  go_ret
  exact ⟨rfl, (Keeps.refl _ _).drewN _⟩
set_option maxRecDepth 100000 in
set_option maxHeartbeats 600000 in
theorem empty_any (w : World) (c a : Nat) (C : CS) (h : At w c a C) :
    Calls Tryz.prog 184 #[.pointer (some ⟨c, 0, none⟩)] w fun e w' => e = .returned (.bool (decide (C.head < 0))) ∧ w = w' := by
  obtain ⟨c0, c1, c2, c3, c4⟩ := h.five
  clear h
  go_enter Tryz.func184, Tryz.ntmps184
  go_wp2
  go_ret
  exact ⟨rfl, rfl⟩
def NextR (w : World) (p : Ar.Pl) (v : Value) (S : Ar.AS) (l x : Nat) (e : Ending) (w' : World) : Prop := e = .returned (.tuple #[.int .i64 ((x : Int) - 1), .int .i64 0]) ∧ Ar.R w p v ⟨S.B, Ar.note S.T l 8 false⟩ w'
set_option maxRecDepth 100000 in
set_option maxHeartbeats 1000000 in
theorem next_any (w : World) (c : Nat) (p : Ar.Pl) (v : Value) (S : Ar.AS) (C : CS) (k x : Nat) (h : At w c p.a C) (H : Ar.AtV w p v S) (hc : ¬ Ar.Fp p v c) (ok : Ok C) (hk : k ≤ 64) (hw : Ar.Word S.B (loc C k) x) (hx : x ≤ C.per) (ht : S.T.length ≤ 1000000000) :
    Calls Tryz.prog 267 #[.pointer (some ⟨c, 0, none⟩), .int .i64 k] w (NextR w p v S (loc C k) x) := by
  obtain ⟨c0, -, -, c3, -⟩ := h.five
  have q1 := at_any w.drew c p.a C k h ok hk
  have q2 := fun wx (kx : Keeps (fun _ => False) w wx) => Ar.load_any wx p v S (loc C k) x (H.old kx) hw ht
  have hx64 : x ≤ 64 := Nat.le_trans hx ok.per
  have hp64 := ok.per
  obtain ⟨P, hP⟩ : ∃ P, C.per = P := ⟨_, rfl⟩
  rw [hP] at c3 hx hp64
  have i1 : IntKind.u64.wrap (P : Int) = P := by rw [IntKind.wrap_u64]; omega
  have t1 : decide ((P : Int) < (x : Int)) = false := by simp; omega
  have t2 : decide (P < x) = false := by simp; omega
  have i2 : IntKind.i64.wrap (x : Int) = x := IntWalk.i64_in _ (by omega)
  have i3 : wrap64 ((x : Int) - 1) = (x : Int) - 1 := by unfold wrap64; omega
  have HH := Hid.of (And.intro hc (And.intro c3 hP))
  generalize loc C k = l at *
  clear h H hw ht ok hk hc hP hx hp64 hx64
  go_enter Tryz.func267, Tryz.ntmps267
  go_wp2
  go_region_held3 (fun wx => wx.cell? ⟨c, 0, none⟩ = some (.pointer (some ⟨p.a, 0, none⟩)))
    (first | exact c0 | exact d0 | exact e0)
    (first
      | (go_at_call 269; refine q1.mono ?_; clear q1; rintro e w1 ⟨rfl, k1⟩; have d0 := keep_cell k1.of_drew (fun x => x) c0; have q := q2 w1 k1.of_drew; clear q2)
      | (go_at_call 306; refine q.mono ?_; clear q; rintro e w2 ⟨rfl, r⟩; have r2 := Ar.R.after k1.of_drew r; obtain ⟨v2, a2, k2, f2⟩ := r2; have e0 := keep_cell k2 HH.out.1 c0))
  have e3 := keep_cell k2 HH.out.1 HH.out.2.1
  have HR := Hid.of (show Ar.R w p v ⟨S.B, Ar.note S.T l 8 false⟩ w2 from ⟨v2, a2, k2, f2⟩)
  clear d0 e0 c0 r a2 f2 k1 k2
  go_wp2
  try go_region
  all_goals
    try go_wp2
    go_ret2
    refine ⟨?_, HR.out⟩
    show Ending.returned (.tuple #[.int .i64 (wrap64 ((x : Int) - 1)), .int .i64 0]) = _
    rw [i3]
def PushR (w : World) (c : Nat) (p : Ar.Pl) (v : Value) (S' : Ar.AS) (C' : CS) (e : Ending) (w' : World) : Prop :=
  e = .returned (.int .i64 0) ∧ ∃ v', Ar.AtV w' p v' S' ∧ At w' c p.a C' ∧ Keeps (fun x => x = c ∨ Ar.Fp p v x) w w' ∧ ∀ x, Ar.Fp p v' x → Ar.Fp p v x ∨ w.heap.size ≤ x
set_option maxRecDepth 100000 in
set_option maxHeartbeats 1000000 in
theorem push_any (w : World) (c : Nat) (p : Ar.Pl) (v : Value) (S : Ar.AS) (C : CS) (k : Nat) (h : At w c p.a C) (H : Ar.AtV w p v S) (hc : ¬ Ar.Fp p v c) (ok : Ok C) (hk : k < C.per) (hl : loc C k + 8 ≤ S.B.length) (ht : S.T.length ≤ 1000000000) :
    Calls Tryz.prog 195 #[.pointer (some ⟨c, 0, none⟩), .int .i64 k] w (PushR w c p v ⟨Ar.sto S.B (loc C k) (C.head + 1).toNat, Ar.note S.T (loc C k) 8 true⟩ { C with head := k }) := by
  obtain ⟨c0, -, -, c3, c4⟩ := h.five
  have hh := ok.head
  have q1 := at_any w.drew c p.a C k h ok (Nat.le_trans (Nat.le_of_lt hk) ok.per)
  obtain ⟨X, hX⟩ : ∃ X : Nat, C.head + 1 = X := ⟨(C.head + 1).toNat, by omega⟩
  have hX2 : (C.head + 1).toNat = X := by omega
  rw [hX2]
  have q2 := fun wx (kx : Keeps (fun _ => False) w wx) => Ar.store_any wx p v S (loc C k) X (H.old kx) (by omega) hl ht
  have i1 : IntKind.i64.wrap (C.head + 1) = (X : Int) := by rw [hX]; exact IntWalk.i64_in _ (by omega)
  have i1' : wrap64 (C.head + 1) = (X : Int) := by unfold wrap64; omega
  have i2 : IntKind.u64.wrap (X : Int) = X := by rw [IntKind.wrap_u64]; omega
  have t1 : decide ((k : Int) < 0) = false := by simp
  have t2 : decide ((C.per : Int) ≤ (k : Int)) = false := by simp; omega
  have t3 : decide (C.per ≤ k) = false := by simp; omega
  have HH := Hid.of (And.intro hc (And.intro h H))
  generalize loc C k = l at *
  obtain ⟨Hd, hHd⟩ : ∃ Hd, C.head = Hd := ⟨_, rfl⟩
  rw [hHd] at c4 i1 i1'
  obtain ⟨P, hP⟩ : ∃ P, C.per = P := ⟨_, rfl⟩
  rw [hP] at c3 t2 t3
  clear h H hl ht ok hk hc hh hX hX2 hHd hP
  go_enter Tryz.func195, Tryz.ntmps195
  go_wp2
  go_region_held3 (fun wx => wx.cell? ⟨c, 0, none⟩ = some (.pointer (some ⟨p.a, 0, none⟩)) ∧ wx.cell? ⟨c, 4, none⟩ = some (.int .i64 Hd))
    (first | exact ⟨c0, c4⟩ | exact ⟨d0, d4⟩ | exact ⟨e0, e4⟩)
    (first
      | (go_at_call 269; refine q1.mono ?_; clear q1; rintro e w1 ⟨rfl, k1⟩; have d0 := keep_cell k1.of_drew (fun x => x) c0; have d4 := keep_cell k1.of_drew (fun x => x) c4; have q := q2 w1 k1.of_drew; clear q2)
      | (go_at_call 268; refine q.mono ?_; clear q; rintro e w2 ⟨rfl, r⟩; have r2 := Ar.R.after k1.of_drew r; obtain ⟨v2, a2, k2, f2⟩ := r2; have e0 := keep_cell k2 HH.out.1 c0; have e4 := keep_cell k2 HH.out.1 c4))
  have hA : At w2 c p.a C := k2.at HH.out.2.1 HH.out.1
  obtain ⟨g1, g2, g3⟩ := hA.head (k : Int)
  obtain ⟨w3, hw3⟩ : ∃ w3, w2.setCell ⟨c, 4, none⟩ (.int .i64 (k : Int)) = w3 := ⟨_, rfl⟩
  rw [hw3] at g2 g3
  have HR := Hid.of (show ∃ v', Ar.AtV w3 p v' ⟨Ar.sto S.B l X, Ar.note S.T l 8 true⟩ ∧ At w3 c p.a { C with head := k } ∧ Keeps (fun x => x = c ∨ Ar.Fp p v x) w w3 ∧ ∀ x, Ar.Fp p v' x → Ar.Fp p v x ∨ w.heap.size ≤ x from by
    have hcw : c < w.heap.size := lt_of HH.out.2.1
    refine ⟨v2, a2.keep g3 (fun x hx e => ?_), g2, (k2.mono (fun x _ h => .inr h)).trans (g3.mono (fun x _ e => .inl e)), f2⟩
    have e : x = c := e
    subst e
    rcases f2 x hx with h | h
    · exact HH.out.1 h
    · omega)
  clear d0 e0 c0 r a2 f2 k1 k2 g2 g3 hA HH d4 c4
  go_wp2
  go_ret
  exact ⟨rfl, HR.out⟩
end Ch
end Go.Proofs.YtnheibcjcgacpaaGreatDoor

/-! The chain package's walks: Pop, Take, lies, Move, New. -/
namespace Go.Proofs.YtnheibcjcgacpaaGreatDoor
open Go.RowKit Go.ChangeMaps
namespace Ch
def PopR (w : World) (c : Nat) (p : Ar.Pl) (v : Value) (S' : Ar.AS) (C' : CS) (k : Nat) (e : Ending) (w' : World) : Prop :=
  e = .returned (.tuple #[.int .i64 k, .int .i64 0]) ∧ ∃ v', Ar.AtV w' p v' S' ∧ At w' c p.a C' ∧ Keeps (fun x => x = c ∨ Ar.Fp p v x) w w' ∧ ∀ x, Ar.Fp p v' x → Ar.Fp p v x ∨ w.heap.size ≤ x
set_option maxRecDepth 100000 in
set_option maxHeartbeats 1000000 in
theorem pop_any (w : World) (c : Nat) (p : Ar.Pl) (v : Value) (S : Ar.AS) (C : CS) (k x : Nat) (h : At w c p.a C) (H : Ar.AtV w p v S) (hc : ¬ Ar.Fp p v c) (ok : Ok C) (hk : C.head = k) (hw : Ar.Word S.B (loc C k) x) (hx : x ≤ C.per) (ht : S.T.length + 1 ≤ 1000000000) :
    Calls Tryz.prog 185 #[.pointer (some ⟨c, 0, none⟩)] w (PopR w c p v ⟨Ar.sto S.B (loc C k) 0, Ar.note (Ar.note S.T (loc C k) 8 false) (loc C k) 8 true⟩ { C with head := (x : Int) - 1 } k) := by
  obtain ⟨c0, -, -, c3, c4⟩ := h.five
  have hh := ok.head
  have hx64 : x ≤ 64 := Nat.le_trans hx ok.per
  have q1 := next_any w c p v S C k x h H hc ok (by omega) hw hx (by omega)
  unfold NextR at q1
  have ok2 : Ok { C with head := (x : Int) - 1 } := ⟨ok.base, ok.unit, ok.per, by simp only; omega⟩
  have q2 := fun wx (hx : At wx c p.a { C with head := (x : Int) - 1 }) => at_any wx.drew c p.a { C with head := (x : Int) - 1 } k hx ok2 (by omega)
  have hl : loc { C with head := (x : Int) - 1 } k = loc C k := rfl
  rw [hl] at q2
  have q3 := fun wx vx (hx : Ar.AtV wx p vx ⟨S.B, Ar.note S.T (loc C k) 8 false⟩) => Ar.store_any wx p vx ⟨S.B, Ar.note S.T (loc C k) 8 false⟩ (loc C k) 0 hx (by omega) hw.2.2 (by have := Ar.note_len S.T (loc C k) 8 false; simp only; omega)
  dsimp only at q3
  have t1 : decide ((k : Int) < 0) = false := by simp
  rw [hk] at c4
  have HH := Hid.of (And.intro hc (And.intro h H))
  generalize loc C k = l at *
  obtain ⟨X, hX⟩ : ∃ X : Int, (x : Int) - 1 = X := ⟨_, rfl⟩
  rw [hX] at q1 q2 ⊢
  clear h H ht ok hk hc hw hx hx64 hl hh hX ok2
  go_enter Tryz.func185, Tryz.ntmps185
  go_wp2_with fail
  refine q1.mono ?_
  rintro e w1 ⟨rfl, r⟩
  obtain ⟨v1, a1, k1, f1⟩ := r
  have hA : At w1 c p.a C := k1.at HH.out.2.1 HH.out.1
  obtain ⟨g1, g2, g3⟩ := hA.head X
  obtain ⟨w2, hw2⟩ : ∃ w2, w1.setCell ⟨c, 4, none⟩ (.int .i64 X) = w2 := ⟨_, rfl⟩
  rw [hw2] at g2 g3
  have hcw : c < w.heap.size := lt_of HH.out.2.1
  have hc1 : ¬ Ar.Fp p v1 c := fun hx => by
    rcases f1 c hx with h | h
    · exact HH.out.1 h
    · omega
  have a2 := a1.keep g3 (fun x hx e => hc1 (by have e : x = c := e; rw [← e]; exact hx))
  obtain ⟨d0, d1, d2, d3, d4⟩ := g2.five
  obtain ⟨e0', -, -, -, e4'⟩ := hA.five
  have q := q2 w2 g2
  have HB := Hid.of (And.intro g2 (And.intro a2 (And.intro hc1 (And.intro k1 (And.intro g3 (And.intro f1 hcw))))))
  clear q1 q2 a1 k1 f1 hA g2 g3 hc1 a2 c0 c3 c4 hcw
  go_wp2
  go_region_held3 (fun wx => wx.cell? ⟨c, 0, none⟩ = some (.pointer (some ⟨p.a, 0, none⟩)))
    (first | exact d0 | exact z0 | exact y0)
    (first
      | (go_at_call 269; refine q.mono ?_; clear q; rintro e w3 ⟨rfl, k3⟩; have z0 := keep_cell k3.of_drew (fun x => x) d0; have qq := q3 w3 v1 (HB.out.2.1.old k3.of_drew); clear q3)
      | (go_at_call 268; refine qq.mono ?_; clear qq; rintro e w4 ⟨rfl, r4⟩; have r5 := Ar.R.after k3.of_drew r4; obtain ⟨v5, a5, k5, f5⟩ := r5; have y0 := keep_cell k5 HB.out.2.2.1 d0))
  have HR := Hid.of (show ∃ v', Ar.AtV w4 p v' ⟨Ar.sto S.B l 0, Ar.note (Ar.note S.T l 8 false) l 8 true⟩ ∧ At w4 c p.a { C with head := X } ∧ Keeps (fun x => x = c ∨ Ar.Fp p v x) w w4 ∧ ∀ x, Ar.Fp p v' x → Ar.Fp p v x ∨ w.heap.size ≤ x from by
    obtain ⟨g2, a2, hc1, k1, g3, f1, hcw⟩ := HB.out
    refine ⟨v5, a5, k5.at g2 hc1, ((k1.mono (fun x _ h => .inr h)).trans (g3.mono (fun x _ e => .inl e))).trans' k5 (fun x hx hl => ?_), fun x hx => ?_⟩
    · rcases f1 x hx with h | h
      · exact .inr h
      · omega
    · rcases f5 x hx with h | h
      · exact f1 x h
      · have s1 := k1.size; have s2 := g3.size; exact .inr (by omega))
  clear r4 a5 k5 f5 HB z0 y0
  go_wp2
  go_ret2
  exact ⟨rfl, HR.out⟩
set_option maxRecDepth 100000 in
set_option maxHeartbeats 600000 in
theorem take_any (w : World) (c d a b : Nat) (C D : CS) (h : At w c a C) (hd : At w d b D) (hcd : c ≠ d) (hC : C.head < 0) :
    Calls Tryz.prog 270 #[.pointer (some ⟨c, 0, none⟩), .pointer (some ⟨d, 0, none⟩)] w fun e w' => e = .returned (.int .i64 0) ∧ At w' c a { C with head := D.head } ∧ At w' d b { D with head := -1 } ∧ Keeps (fun x => x = c ∨ x = d) w w' := by
  obtain ⟨-, -, -, -, c4⟩ := h.five
  obtain ⟨-, -, -, -, d4⟩ := hd.five
  have t1 : decide (0 ≤ C.head) = false := by simp; omega
  obtain ⟨g1, g2, g3⟩ := h.head D.head
  obtain ⟨w2, hw2⟩ : ∃ w2, w.setCell ⟨c, 4, none⟩ (.int .i64 D.head) = w2 := ⟨_, rfl⟩
  rw [hw2] at g2 g3
  have hd2 : At w2 d b D := g3.at hd (fun e => hcd e.symm)
  obtain ⟨i1, i2, i3⟩ := hd2.head (-1)
  obtain ⟨-, -, -, -, e4⟩ := hd2.five
  obtain ⟨w3, hw3⟩ : ∃ w3, w2.setCell ⟨d, 4, none⟩ (.int .i64 (-1)) = w3 := ⟨_, rfl⟩
  rw [hw3] at i2 i3
  have HF := Hid.of (show At w3 c a { C with head := D.head } ∧ At w3 d b { D with head := -1 } ∧ Keeps (fun x => x = c ∨ x = d) w w3 from ⟨i3.at g2 (fun e => hcd e), i2, (g3.mono (fun x _ e => .inl e)).trans (i3.mono (fun x _ e => .inr e))⟩)
  clear h hd hC g2 g3 hd2 i2 i3
  go_enter Tryz.func270, Tryz.ntmps270
  go_wp2
  go_ret
  exact ⟨rfl, HF.out⟩
set_option maxRecDepth 100000 in
set_option maxHeartbeats 600000 in
theorem lies_any (w : World) (p : Ar.Pl) (v : Value) (S : Ar.AS) (base unit per : Nat) (H : Ar.AtV w p v S) (hu : unit ≤ 512) (hp : per ≤ 64) (hl : base + unit * per ≤ S.B.length) :
    Calls Tryz.prog 271 #[.pointer (some ⟨p.a, 0, none⟩), .int .i64 base, .int .i64 unit, .int .i64 per] w fun e w' => e = .returned (.bool true) ∧ w = w' := by
  have q := Ar.size_any w p v S H
  have hL := H.len
  obtain ⟨L, hLL⟩ : ∃ L, S.B.length = L := ⟨_, rfl⟩
  rw [hLL] at q hl hL
  obtain ⟨M, hM⟩ : ∃ M, unit * per = M := ⟨_, rfl⟩
  rw [hM] at hl
  have e1 : (unit : Int) * (per : Int) = (M : Int) := by rw [← hM]; simp
  have w1 : wrap64 ((unit : Int) * (per : Int)) = (M : Int) := by rw [e1]; unfold wrap64; omega
  have w2 : wrap64 ((L : Int) - (base : Int)) = (L : Int) - base := by unfold wrap64; omega
  have t1 : decide ((0 : Int) ≤ (base : Int)) = true := by simp
  have t2 : decide ((base : Int) ≤ (L : Int)) = true := by simp; omega
  have t2' : decide (base ≤ L) = true := by simp; omega
  have t3 : decide ((M : Int) ≤ (L : Int) - base) = true := by simp; omega
  clear H hu hp hl hL hLL hM e1
  go_enter Tryz.func271, Tryz.ntmps271
  go_wp2_with fail
  refine q.mono ?_
  rintro e w3 ⟨rfl, rfl⟩
  go_wp2_with fail
  refine q.mono ?_
  rintro e w3 ⟨rfl, rfl⟩
  go_wp2
  go_ret
  exact ⟨rfl, rfl⟩
set_option maxRecDepth 100000 in
set_option maxHeartbeats 600000 in
theorem move_any (w : World) (c : Nat) (p : Ar.Pl) (v : Value) (S : Ar.AS) (C : CS) (x : Nat) (h : At w c p.a C) (H : Ar.AtV w p v S) (ok : Ok C) (hl : x + C.unit * C.per ≤ S.B.length) :
    Calls Tryz.prog 291 #[.pointer (some ⟨c, 0, none⟩), .int .i64 x] w fun e w' => e = .returned (.int .i64 0) ∧ At w' c p.a { C with base := x } ∧ Keeps (fun y => y = c) w w' := by
  obtain ⟨c0, -, c2, c3, -⟩ := h.five
  have q := lies_any w.drew p v S x C.unit C.per (H.old ((Keeps.refl _ _).drew)) ok.unit ok.per hl
  have hA := Hid.of h
  clear H ok hl h
  go_enter Tryz.func291, Tryz.ntmps291
  go_wp2
  go_region_held3 (fun wx => wx.cell? ⟨c, 0, none⟩ = some (.pointer (some ⟨p.a, 0, none⟩)) ∧ wx.cell? ⟨c, 2, none⟩ = some (.int .i64 C.unit) ∧ wx.cell? ⟨c, 3, none⟩ = some (.int .i64 C.per))
    (first | exact ⟨c0, c2, c3⟩)
    (first
      | (go_at_call 271; refine q.mono ?_; clear q; rintro e w3 ⟨rfl, rfl⟩))
  obtain ⟨g1, g2, g3⟩ := At.based (w := w.drew) hA.out x
  obtain ⟨-, d1, -, -, -⟩ := At.five (w := w.drew) hA.out
  obtain ⟨w2, hw2⟩ : ∃ w2, w.drew.setCell ⟨c, 1, none⟩ (.int .i64 x) = w2 := ⟨_, rfl⟩
  rw [hw2] at g2 g3
  have HF := Hid.of (And.intro g2 g3.of_drew)
  clear g2 g3 hA c0 c2 c3
  go_wp2
  go_ret
  exact ⟨rfl, HF.out⟩
def NewR (w : World) (a : Nat) (C : CS) (e : Ending) (w' : World) : Prop := ∃ c, e = .returned (.tuple #[.pointer (some ⟨c, 0, none⟩), .int .i64 0]) ∧ At w' c a C ∧ w.heap.size ≤ c ∧ Keeps (fun _ => False) w w'
set_option maxRecDepth 100000 in
set_option maxHeartbeats 600000 in
theorem new_any (w : World) (p : Ar.Pl) (v : Value) (S : Ar.AS) (base unit per : Nat) (H : Ar.AtV w p v S) (h8 : 8 ≤ unit) (hu : unit ≤ 512) (hp1 : 1 ≤ per) (hp : per ≤ 64) (hl : base + unit * per ≤ S.B.length) :
    Calls Tryz.prog 190 #[.pointer (some ⟨p.a, 0, none⟩), .int .i64 base, .int .i64 unit, .int .i64 per] w (NewR w p.a ⟨base, unit, per, -1⟩) := by
  have q := lies_any w p v S base unit per H hu hp hl
  have t1 : decide ((unit : Int) < 8) = false := by simp; omega
  have t2 : decide ((512 : Int) < (unit : Int)) = false := by simp; omega
  have t3 : decide ((per : Int) < 1) = false := by simp; omega
  have t4 : decide ((64 : Int) < (per : Int)) = false := by simp; omega
  clear H h8 hu hp1 hp hl
  go_enter Tryz.func190, Tryz.ntmps190
  go_wp2_with fail
  refine q.mono ?_
  rintro e w3 ⟨rfl, rfl⟩
  go_wp2
  go_ret2
  exact ⟨_, rfl, alloc_new _ _, Nat.le_refl _, (Keeps.refl _ _).alloc _⟩
end Ch
end Go.Proofs.YtnheibcjcgacpaaGreatDoor
