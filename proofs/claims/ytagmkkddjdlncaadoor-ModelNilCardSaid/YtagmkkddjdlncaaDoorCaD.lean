/- The caps package's walks: Grant, Restrict. -/
import Derived.Test.YtagmkkddjdlncaaDoorCaC
set_option linter.unusedVariables false
set_option linter.unusedSimpArgs false
namespace Go.Proofs.YtagmkkddjdlncaaDoor
open Go.RowKit Go.ChangeMaps
namespace Ca
def grant (C : Cp) (a : Int) : (Nat × Int) × Cp := if a < 0 then ((0, 12), C) else putA C a 7
set_option maxRecDepth 100000 in
set_option maxHeartbeats 1000000 in
theorem grant_any (w : World) (p : Pl) (C : Cp) (a : Int) (H : At w p C) (ok : Ok C) (hT : Sh.Tab w) :
    Calls Tryd.prog 47 #[.pointer (some ⟨p.c, 0, none⟩), .int .i64 a] w (PutR w p (grant C a).1.1 (grant C a).1.2 (grant C a).2) := by
  by_cases h : a < 0
  · have e : grant C a = ((0, 12), C) := by unfold grant; rw [if_pos h]
    rw [e]
    clear e
    go_enter Tryd.func47, Tryd.ntmps47
    go_wp2
    go_ret2
    exact ⟨rfl, H, Keeps.refl _ _⟩
  · have e : grant C a = putA C a 7 := by unfold grant; rw [if_neg h]
    rw [e]
    have q := putA_any w p C a 7 H ok (by omega) (by omega) hT
    have c3 := cell_of (v := .pointer (some ⟨p.s, 0, none⟩)) H.cells 3 rfl
    generalize (putA C a 7).2 = C' at *
    generalize (putA C a 7).1.2 = E at *
    generalize (putA C a 7).1.1 = P at *
    clear e
    go_enter Tryd.func47, Tryd.ntmps47
    go_wp2_with fail
    refine q.mono ?_
    rintro e w1 ⟨rfl, a1, k1⟩
    have HF := Hid.of (And.intro a1 k1)
    clear q a1 k1
    go_wp2
    go_ret2
    exact ⟨rfl, HF.out⟩
def restrict (C : Cp) (h : Nat) (x : Int) : (Nat × Int) × Cp := match fnd C h with
  | none => ((0, 5), C)
  | some y => if x < 1 ∨ 7 < x then ((0, 2), C) else if has y.r x then putB C y.a x.toNat else ((0, 5), C)
set_option maxRecDepth 100000 in
set_option maxHeartbeats 1000000 in
theorem restrict_any (w : World) (p : Pl) (C : Cp) (h : Nat) (x : Int) (H : At w p C) (ok : Ok C) (hh : h < 18446744073709551616) (hT : Sh.Tab w) :
    Calls Tryd.prog 37 #[.pointer (some ⟨p.c, 0, none⟩), .int .u64 h, .int .i64 x] w (PutR w p (restrict C h x).1.1 (restrict C h x).1.2 (restrict C h x).2) := by
  have q := find_any w p C h H hh
  unfold fndV at q
  cases hf : fnd C h with
  | none =>
    have e : restrict C h x = ((0, 5), C) := by unfold restrict; rw [hf]
    rw [e]
    rw [hf] at q
    unfold Slt.enc Slt.zero at q
    dsimp only at q ⊢
    go_enter Tryd.func37, Tryd.ntmps37
    go_wp2_with fail
    refine q.mono ?_
    rintro e w1 ⟨rfl, k1⟩
    have k2 := k1.alloc (.cells #[.int .i64 0, .int .i64 0, .int .i64 0] 86)
    have HF := Hid.of (And.intro (H.old k2) (k2.mono (F := fun _ => False) (G := Fp p) (fun _ _ x => x.elim)))
    clear q k1 k2
    go_wp2
    go_ret2
    exact ⟨rfl, HF.out⟩
  | some y =>
    obtain ⟨yr, yn, ya⟩ := y
    rw [hf] at q
    unfold Slt.enc at q
    dsimp only at q
    have hk : x < 1 ∨ (1 ≤ x ∧ 7 < x) ∨ (1 ≤ x ∧ x ≤ 7) := by omega
    rcases hk with h1 | ⟨h1, h2⟩ | ⟨h1, h2⟩
    · have e : restrict C h x = ((0, 2), C) := by unfold restrict; rw [hf]; dsimp only; rw [if_pos (by omega)]
      rw [e]
      clear e hf
      go_enter Tryd.func37, Tryd.ntmps37
      go_wp2_with fail
      refine q.mono ?_
      rintro e w1 ⟨rfl, k1⟩
      have k2 := k1.alloc (.cells #[.int .i64 yr, .int .i64 yn, .int .i64 ya] 86)
      have HF := Hid.of (And.intro (H.old k2) (k2.mono (F := fun _ => False) (G := Fp p) (fun _ _ x => x.elim)))
      clear q k1 k2
      go_wp2
      go_ret2
      exact ⟨rfl, HF.out⟩
    · have e : restrict C h x = ((0, 2), C) := by unfold restrict; rw [hf]; dsimp only; rw [if_pos (by omega)]
      rw [e]
      clear e hf
      go_enter Tryd.func37, Tryd.ntmps37
      go_wp2_with fail
      refine q.mono ?_
      rintro e w1 ⟨rfl, k1⟩
      have k2 := k1.alloc (.cells #[.int .i64 yr, .int .i64 yn, .int .i64 ya] 86)
      have HF := Hid.of (And.intro (H.old k2) (k2.mono (F := fun _ => False) (G := Fp p) (fun _ _ x => x.elim)))
      clear q k1 k2
      go_wp2
      go_ret2
      exact ⟨rfl, HF.out⟩
    · have e : restrict C h x = if has yr x then putB C ya x.toNat else ((0, 5), C) := by unfold restrict; rw [hf]; dsimp only; rw [if_neg (by omega)]
      rw [e]
      clear e hf
      obtain ⟨x, rfl⟩ : ∃ z : Nat, x = z := ⟨x.toNat, by omega⟩
      rw [Int.toNat_natCast]
      cases hb : has yr x
      · rw [if_neg (by simp)]
        go_enter Tryd.func37, Tryd.ntmps37
        go_wp2_with fail
        refine q.mono ?_
        rintro e w1 ⟨rfl, k1⟩
        obtain ⟨A, hA⟩ : ∃ A, w1.heap.size = A := ⟨_, rfl⟩
        obtain ⟨w2, hw2⟩ : ∃ w2, w1.alloc (.cells #[.int .i64 yr, .int .i64 yn, .int .i64 ya] 86) = w2 := ⟨_, rfl⟩
        have k2 : Keeps (fun _ => False) w1 w2 := by rw [← hw2]; exact (Keeps.refl _ _).alloc _
        have ha2 : w2.heap[A]? = some (.cells #[.int .i64 yr, .int .i64 yn, .int .i64 ya] 86 (0, 0)) := by rw [← hw2, ← hA]; exact alloc_new _ _
        have c0 := cell_of (v := .int .i64 yr) ha2 0 rfl
        have c1 := cell_of (v := .int .i64 yn) ha2 1 rfl
        have q2 := may_any w2 yr yn x
        rw [hb] at q2
        have HK := Hid.of (k1.trans k2)
        clear q k1 k2 ha2 hb
        go_wp2_with fail
        refine q2.mono ?_
        rintro e w3 ⟨rfl, k3⟩
        have HF := Hid.of (And.intro (H.old (HK.out.trans k3)) ((HK.out.trans k3).mono (F := fun _ => False) (G := Fp p) (fun _ _ x => x.elim)))
        clear q2 k3
        go_wp2
        go_ret2
        exact ⟨rfl, HF.out⟩
      · rw [if_pos rfl]
        have qp := fun w k H => putB_any w p C ya x (k : At w p C) ok (by omega) (by omega) H
        generalize (putB C ya x).2 = C' at *
        generalize (putB C ya x).1.2 = E at *
        generalize (putB C ya x).1.1 = P at *
        go_enter Tryd.func37, Tryd.ntmps37
        go_wp2_with fail
        refine q.mono ?_
        rintro e w1 ⟨rfl, k1⟩
        obtain ⟨A, hA⟩ : ∃ A, w1.heap.size = A := ⟨_, rfl⟩
        obtain ⟨w2, hw2⟩ : ∃ w2, w1.alloc (.cells #[.int .i64 yr, .int .i64 yn, .int .i64 ya] 86) = w2 := ⟨_, rfl⟩
        have k2 : Keeps (fun _ => False) w1 w2 := by rw [← hw2]; exact (Keeps.refl _ _).alloc _
        have ha2 : w2.heap[A]? = some (.cells #[.int .i64 yr, .int .i64 yn, .int .i64 ya] 86 (0, 0)) := by rw [← hw2, ← hA]; exact alloc_new _ _
        have c0 := cell_of (v := .int .i64 yr) ha2 0 rfl
        have c1 := cell_of (v := .int .i64 yn) ha2 1 rfl
        have q2 := may_any w2 yr yn x
        rw [hb] at q2
        have HNA : Hid (¬ Fp p A) := Hid.of (fun hx => by have := H.lt hx; have := k1.size; omega)
        have HK := Hid.of (And.intro (k1.trans k2) ha2)
        clear q k1 k2 ha2 hb
        go_wp2_with fail
        refine q2.mono ?_
        rintro e w3 ⟨rfl, k3⟩
        have K3 := HK.out.1.trans k3
        have H3 := H.old K3
        have d2 := cell_of (v := .int .i64 ya) (k3.at HK.out.2 (fun x => x)) 2 rfl
        have e4 := cell_of (v := .pointer (some ⟨p.u, 0, none⟩)) H3.cells 4 rfl
        have qq := qp w3.drew (H3.old ((Keeps.refl _ _).drew)) ((hT.old K3).old ((Keeps.refl _ _).drew))
        have HK3 := Hid.of K3
        have HA3 := Hid.of (k3.at HK.out.2 (fun x => x))
        clear q2 k3 K3 H3 qp c0 c1
        go_wp2
        go_region_held3 (fun wx => wx.cell? ⟨A, 2, none⟩ = some (.int .i64 ya) ∧ wx.cell? ⟨p.c, 4, none⟩ = some (.pointer (some ⟨p.u, 0, none⟩)))
          (first | exact ⟨d2, e4⟩ | exact ⟨d2', e4'⟩)
          (first
            | (go_at_call 50; refine qq.mono ?_; rintro e w5 ⟨rfl, a5, k5⟩; have HF := Hid.of (And.intro a5 ((HK3.out.mono (F := fun _ => False) (G := Fp p) (fun _ _ x => x.elim)).trans k5.of_drew)); have d2' := cell_of (v := .int .i64 ya) (k5.of_drew.at HA3.out HNA.out) 2 rfl; have e4' := cell_of (v := .pointer (some ⟨p.u, 0, none⟩)) a5.cells 4 rfl; clear a5 k5))
        go_wp2
        go_ret2
        exact ⟨rfl, HF.out⟩
end Ca
end Go.Proofs.YtagmkkddjdlncaaDoor
