/- The caps package's walks: good.may, Serial, Find, put, Grant. -/
import Derived.Test.YtagmkkddjdlncaaDoorCaA
set_option linter.unusedVariables false
set_option linter.unusedSimpArgs false
namespace Go.Proofs.YtagmkkddjdlncaaDoor
open Go.RowKit Go.ChangeMaps
namespace Ca
/-- Whether rights hold others. -/
def has (r x : Int) : Bool := bits .and .i64 r x == x
set_option maxRecDepth 100000 in
theorem may_any (w : World) (r n x : Int) : Calls Tryd.prog 42 #[.agg #[.int .i64 r, .int .i64 n], .int .i64 x] w fun e w' => e = .returned (.bool (has r x)) ∧ Keeps (fun _ => False) w w' := by
  obtain ⟨A, hA⟩ : ∃ A, w.heap.size = A := ⟨_, rfl⟩
  obtain ⟨w1, hw1⟩ : ∃ w1, w.alloc (.cells #[.int .i64 r, .int .i64 n] 84) = w1 := ⟨_, rfl⟩
  have k1 : Keeps (fun _ => False) w w1 := by rw [← hw1]; exact (Keeps.refl _ _).alloc _
  have ha1 : w1.heap[A]? = some (.cells #[.int .i64 r, .int .i64 n] 84 (0, 0)) := by rw [← hw1, ← hA]; exact alloc_new _ _
  have c0 := cell_of (v := .int .i64 r) ha1 0 rfl
  have HK := Hid.of k1
  unfold has
  obtain ⟨y, hy⟩ : ∃ y, bits .and .i64 r x = y := ⟨_, rfl⟩
  rw [hy]
  clear k1 ha1
  go_enter Tryd.func42, Tryd.ntmps42
  go_wp2
  go_ret
  exact ⟨rfl, HK.out⟩
set_option maxRecDepth 100000 in
theorem serial_any (w : World) (p : Pl) (C : Cp) (H : At w p C) : Calls Tryd.prog 31 #[.pointer (some ⟨p.c, 0, none⟩)] w fun e w' => e = .returned (.int .i64 C.N) ∧ w = w' := by
  have c1 := cell_of (v := .int .i64 C.N) H.cells 1 rfl
  go_enter Tryd.func31, Tryd.ntmps31
  go_wp2
  go_ret
  exact ⟨rfl, rfl⟩
/-- What Find answers. -/
def Fnd (C : Cp) (h : Nat) (x : Int) : Int × Int := match fnd C h with
  | some y => if 0 ≤ x ∧ x ≤ 7 then (if has y.r x then (y.a, 0) else (0, 5)) else (0, 5)
  | none => (0, 5)
set_option maxRecDepth 100000 in
set_option maxHeartbeats 1000000 in
theorem Find_any (w : World) (p : Pl) (C : Cp) (h : Nat) (x : Int) (H : At w p C) (hh : h < 18446744073709551616) :
    Calls Tryd.prog 24 #[.pointer (some ⟨p.c, 0, none⟩), .int .u64 h, .int .i64 x] w fun e w' => e = .returned (.tuple #[.int .i64 (Fnd C h x).1, .int .i64 (Fnd C h x).2]) ∧ Keeps (fun _ => False) w w' := by
  have q := find_any w p C h H hh
  unfold fndV at q
  unfold Fnd
  cases hf : fnd C h with
  | none =>
    rw [hf] at q
    dsimp only at q ⊢
    unfold Slt.enc Slt.zero at q
    dsimp only at q
    go_enter Tryd.func24, Tryd.ntmps24
    go_wp2_with fail
    refine q.mono ?_
    rintro e w1 ⟨rfl, k1⟩
    have HK := Hid.of (k1.alloc (.cells #[.int .i64 0, .int .i64 0, .int .i64 0] 86))
    clear q k1
    go_wp2
    go_ret2
    exact ⟨rfl, HK.out⟩
  | some y =>
    obtain ⟨yr, yn, ya⟩ := y
    rw [hf] at q
    dsimp only at q ⊢
    unfold Slt.enc at q
    dsimp only at q
    have hk : x < 0 ∨ (0 ≤ x ∧ 7 < x) ∨ (0 ≤ x ∧ x ≤ 7) := by omega
    rcases hk with h1 | ⟨h1, h2⟩ | ⟨h1, h2⟩
    · rw [if_neg (by omega)]
      go_enter Tryd.func24, Tryd.ntmps24
      go_wp2_with fail
      refine q.mono ?_
      rintro e w1 ⟨rfl, k1⟩
      have HK := Hid.of (k1.alloc (.cells #[.int .i64 yr, .int .i64 yn, .int .i64 ya] 86))
      clear q k1
      go_wp2
      go_ret2
      exact ⟨rfl, HK.out⟩
    · rw [if_neg (by omega)]
      go_enter Tryd.func24, Tryd.ntmps24
      go_wp2_with fail
      refine q.mono ?_
      rintro e w1 ⟨rfl, k1⟩
      have HK := Hid.of (k1.alloc (.cells #[.int .i64 yr, .int .i64 yn, .int .i64 ya] 86))
      clear q k1
      go_wp2
      go_ret2
      exact ⟨rfl, HK.out⟩
    · rw [if_pos ⟨h1, h2⟩]
      cases hb : has yr x
      all_goals
        go_enter Tryd.func24, Tryd.ntmps24
        go_wp2_with fail
        refine q.mono ?_
        rintro e w1 ⟨rfl, k1⟩
        obtain ⟨A, hA⟩ : ∃ A, w1.heap.size = A := ⟨_, rfl⟩
        obtain ⟨w2, hw2⟩ : ∃ w2, w1.alloc (.cells #[.int .i64 yr, .int .i64 yn, .int .i64 ya] 86) = w2 := ⟨_, rfl⟩
        have k2 : Keeps (fun _ => False) w1 w2 := by rw [← hw2]; exact (Keeps.refl _ _).alloc _
        have ha2 : w2.heap[A]? = some (.cells #[.int .i64 yr, .int .i64 yn, .int .i64 ya] 86 (0, 0)) := by rw [← hw2, ← hA]; exact alloc_new _ _
        have c0 := cell_of (v := .int .i64 yr) ha2 0 rfl
        have c1 := cell_of (v := .int .i64 yn) ha2 1 rfl
        have q2 := may_any w2 yr yn x
        rw [hb] at q2
        have HK := Hid.of (And.intro (k1.trans k2) ha2)
        clear q k1 k2 ha2 hb
        go_wp2_with fail
        refine q2.mono ?_
        rintro e w3 ⟨rfl, k3⟩
        have d2 := cell_of (v := .int .i64 ya) (k3.at HK.out.2 (fun x => x)) 2 rfl
        have HK3 := Hid.of (HK.out.1.trans k3)
        clear q2 k3
        go_wp2
        go_ret2
        exact ⟨rfl, HK3.out⟩
end Ca
end Go.Proofs.YtagmkkddjdlncaaDoor
