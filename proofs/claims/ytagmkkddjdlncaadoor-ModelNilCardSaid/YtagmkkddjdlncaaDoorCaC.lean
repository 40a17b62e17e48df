/- The caps package's walks: put, on either shelf (printed by gen_caput.py). -/
import Derived.Test.YtagmkkddjdlncaaDoorCaB
import Derived.Test.YtagmkkddjdlncaaDoorShB
set_option linter.unusedVariables false
set_option linter.unusedSimpArgs false
namespace Go.Proofs.YtagmkkddjdlncaaDoor
open Go.RowKit Go.ChangeMaps
namespace Ca
/-- A table as it should be. -/
structure Ok (C : Cp) : Prop where
  t : C.T < 8
  n : 1 ≤ C.N
  a : C.A.length = 4096
  b : C.B.length = 64
/-- What a call that gives a handle leaves. -/
def PutR (w : World) (p : Pl) (h : Nat) (E : Int) (C' : Cp) (e : Ending) (w' : World) : Prop := e = .returned (.tuple #[.int .u64 h, .int .i64 E]) ∧ At w' p C' ∧ Keeps (Fp p) w w'
theorem At.shelfA {w w' : World} {p : Pl} {C C' : Cp} (h : At w p C) {S : List Bool} (a : Sh.At w' p.s p.v S) (k : Keeps (Sh.Fp p.s p.v) w w') (e : C' = { C with A := S }) : At w' p C' := by
  subst e
  exact { h with
    cells := k.at h.cells h.cs
    map := h.map.keep k h.ms
    sa := a
    sb := h.sb.keep k (fun x hx hy => h.su x hy hx) }
theorem At.shelfB {w w' : World} {p : Pl} {C C' : Cp} (h : At w p C) {S : List Bool} (a : Sh.At w' p.u p.x S) (k : Keeps (Sh.Fp p.u p.x) w w') (e : C' = { C with B := S }) : At w' p C' := by
  subst e
  exact { h with
    cells := k.at h.cells h.cu
    map := h.map.keep k h.mu
    sa := h.sa.keep k (fun x hx hy => h.su x hx hy)
    sb := a }
theorem At.mapped {w w' : World} {p : Pl} {C C' : Cp} (h : At w p C) (m : EMap Slt.enc w' p.m C'.E) (k : Keeps (fun x => x = p.m) w w') (e1 : C'.T = C.T) (e2 : C'.N = C.N) (e3 : C'.A = C.A) (e4 : C'.B = C.B) : At w' p C' :=
  { h with
    cells := by rw [e1, e2]; exact k.at h.cells h.cm
    map := m
    sa := by rw [e3]; exact h.sa.keep k (fun x hx e => h.ms (e ▸ hx))
    sb := by rw [e4]; exact h.sb.keep k (fun x hx e => h.mu (e ▸ hx)) }
theorem At.next {w : World} {p : Pl} {C : Cp} (h : At w p C) (n : Nat) : At (w.setCell ⟨p.c, 1, none⟩ (.int .i64 (n : Int))) p { C with N := n } := by
  have k : Keeps (fun x => x = p.c) w (w.setCell ⟨p.c, 1, none⟩ (.int .i64 (n : Int))) := (Keeps.refl _ _).setCell _ _ (.inl rfl)
  exact { h with
    cells := set_of h.cells 1 _
    map := h.map.keep k (fun e => h.cm e.symm)
    sa := h.sa.keep k (fun x hx e => h.cs (e ▸ hx))
    sb := h.sb.keep k (fun x hx e => h.cu (e ▸ hx)) }

def putA (C : Cp) (a : Int) (r : Nat) : (Nat × Int) × Cp := if 17592186044416 ≤ C.N then ((0, 10), C) else match Sh.frees C.A with
  | [] => ((0, 10), C)
  | k :: _ => ((Han.pk C.T (0 + k) r C.N, 0), { C with N := C.N + 1, E := eset C.E ((0 + k : Nat) : Int) ⟨r, C.N, a⟩, A := C.A.set k false })
set_option maxRecDepth 100000 in
set_option maxHeartbeats 1000000 in
theorem putA_any (w : World) (p : Pl) (C : Cp) (a : Int) (r : Nat) (H : At w p C) (ok : Ok C) (hr1 : 1 ≤ r) (hr7 : r ≤ 7) (hT : Sh.Tab w) :
    Calls Tryd.prog 50 #[.pointer (some ⟨p.c, 0, none⟩), .pointer (some ⟨p.s, 0, none⟩), .int .i64 0, .int .i64 a, .int .i64 r] w (PutR w p (putA C a r).1.1 (putA C a r).1.2 (putA C a r).2) := by
  obtain ⟨n, hn⟩ : ∃ n : Int, (C.N : Int) = n := ⟨_, rfl⟩
  have c1 : w.cell? ⟨p.c, 1, none⟩ = some (.int .i64 n) := by rw [← hn]; exact cell_of H.cells 1 rfl
  have HNn := Hid.of hn
  by_cases hN : 17592186044416 ≤ C.N
  · have e : putA C a r = ((0, 10), C) := by unfold putA; rw [if_pos hN]
    rw [e]
    have hd : decide ((17592186044416 : Int) ≤ n) = true := by simp; omega
    clear hN e hn
    go_enter Tryd.func50, Tryd.ntmps50
    go_wp2
    go_ret2
    exact ⟨rfl, H, Keeps.refl _ _⟩
  · have hd : decide ((17592186044416 : Int) ≤ n) = false := by simp; omega
    have q := Sh.take_any w p.s p.v C.A H.sa hT
    unfold Sh.takeR Sh.takeS at q
    cases hf : Sh.frees C.A with
    | nil =>
      have e : putA C a r = ((0, 10), C) := by unfold putA; rw [if_neg hN, hf]
      rw [e]
      rw [hf] at q
      dsimp only at q
      clear hN e hf hn
      go_enter Tryd.func50, Tryd.ntmps50
      go_wp2_with fail
      refine q.mono ?_
      rintro e w1 ⟨rfl, a1, k1⟩
      have HF : Hid (At w1 p C ∧ Keeps (Fp p) w w1) := Hid.of (And.intro (H.shelfA (C' := C) a1 k1 rfl) (k1.mono (fun x _ hx => (.inr (.inr (.inl hx)) : Fp p x))))
      clear q a1 k1
      go_wp2
      go_ret2
      exact ⟨rfl, HF.out⟩
    | cons k rest =>
      have e : putA C a r = ((Han.pk C.T (0 + k) r C.N, 0), { C with N := C.N + 1, E := eset C.E ((0 + k : Nat) : Int) ⟨r, C.N, a⟩, A := C.A.set k false }) := by unfold putA; rw [if_neg hN, hf]
      rw [e]
      rw [hf] at q
      dsimp only at q ⊢
      have hk := (Sh.frees_take hf).1
      have hk2 : 0 + k ≤ 4159 := by have := ok.a; have := ok.b; omega
      have hNn : C.N ≤ 17592186044415 := by omega
      have qp := fun w => Han.pack_any w C.T (0 + k) r C.N (by have := ok.t; omega) hk2 hr1 hr7 ok.n hNn
      obtain ⟨P, hP⟩ : ∃ P, Han.pk C.T (0 + k) r C.N = P := ⟨_, rfl⟩
      rw [hP] at qp
      rw [hP]
      unfold Han.key at qp
      obtain ⟨z, hz⟩ : ∃ z : Int, ((0 + k : Nat) : Int) = z := ⟨_, rfl⟩
      rw [hz] at qp
      rw [hz]
      have hsum : IntKind.i64.wrap ((k : Int)) = z := by rw [IntWalk.i64_in _ (by omega)]; omega
      have hinc : wrap64 (n + 1) = ((C.N + 1 : Nat) : Int) := by unfold wrap64; omega
      rw [hn] at qp
      have HS := Hid.of hsum
      have HI := Hid.of hinc
      clear hN e hf hk hk2 hP hz hsum hinc hr1 hr7 hn hNn
      go_enter Tryd.func50, Tryd.ntmps50
      go_wp2_with fail
      refine q.mono ?_
      rintro e w1 ⟨rfl, a1, k1⟩
      have H1 := H.shelfA (C' := { C with A := C.A.set k false }) a1 k1 rfl
      have K1 : Keeps (Fp p) w w1 := k1.mono (fun x _ hx => (.inr (.inr (.inl hx)) : Fp p x))
      obtain ⟨w2, up, M2, k2⟩ := H1.map.drew.upd (P := Tryd.prog) 3 Tryd.underlying78 Tryd.underlying3 z (⟨r, C.N, a⟩ : Slt)
      have H2 := H1.mapped (C' := { C with E := eset C.E z ⟨r, C.N, a⟩, A := C.A.set k false }) M2 k2.of_drew rfl rfl rfl rfl
      have K2 := K1.trans (k2.of_drew.mono (fun x _ hx => (.inr (.inl hx) : Fp p x)))
      unfold Slt.enc at up
      dsimp only at up
      rw [HNn.out] at up
      have m1 := cell_of (v := .map (some p.m)) H1.cells 2 rfl
      have n1 : w1.cell? ⟨p.c, 1, none⟩ = some (.int .i64 n) := by rw [← HNn.out]; exact cell_of H1.cells 1 rfl
      have HH2 := Hid.of (And.intro H2 K2)
      have t2 := cell_of (v := .int .i64 C.T) H2.cells 0 rfl
      have n2 : w2.cell? ⟨p.c, 1, none⟩ = some (.int .i64 n) := by rw [← HNn.out]; exact cell_of H2.cells 1 rfl
      have hs2 := HS.out
      clear q a1 k1 H1 K1 M2 k2 H2 K2 c1 hd
      go_wp2
      go_region
      clear m1 n1 up
      go_wp2
      have qq := qp w2.drew
      clear qp
      go_region_held3 (fun wx => wx.cell? ⟨p.c, 0, none⟩ = some (.int .i64 C.T) ∧ wx.cell? ⟨p.c, 1, none⟩ = some (.int .i64 n))
        (first | exact ⟨t2, n2⟩ | exact ⟨t3, n3⟩)
        (first
          | (go_at_call 61; refine qq.mono ?_; rintro e w3 ⟨rfl, k3⟩; have HH3 := Hid.of (And.intro (HH2.out.1.old k3.of_drew) (HH2.out.2.trans (k3.of_drew.mono (fun x _ hx => hx.elim)))); have t3 := cell_of (v := .int .i64 C.T) HH3.out.1.cells 0 rfl; have n3 : w3.cell? ⟨p.c, 1, none⟩ = some (.int .i64 n) := (by rw [← HNn.out]; exact cell_of HH3.out.1.cells 1 rfl); clear k3))
      clear t2 n2 hs2 qq
      have f3 := free_of HH3.out.1.cells 1
      have hinc := HI.out
      obtain ⟨w4, hw4⟩ : ∃ w4, w3.setCell ⟨p.c, 1, none⟩ (.int .i64 ((C.N : Int) + 1)) = w4 := ⟨_, rfl⟩
      have HF : Hid (At w4 p { C with N := C.N + 1, E := eset C.E z ⟨r, C.N, a⟩, A := C.A.set k false } ∧ Keeps (Fp p) w w4) := Hid.of (by
        rw [← hw4]
        exact And.intro (HH3.out.1.next (C.N + 1)) (HH3.out.2.setCell _ _ (.inl (.inl rfl))))
      clear t3
      go_wp2
      go_ret2
      exact ⟨rfl, HF.out⟩

def putB (C : Cp) (a : Int) (r : Nat) : (Nat × Int) × Cp := if 17592186044416 ≤ C.N then ((0, 10), C) else match Sh.frees C.B with
  | [] => ((0, 10), C)
  | k :: _ => ((Han.pk C.T (4096 + k) r C.N, 0), { C with N := C.N + 1, E := eset C.E ((4096 + k : Nat) : Int) ⟨r, C.N, a⟩, B := C.B.set k false })
set_option maxRecDepth 100000 in
set_option maxHeartbeats 1000000 in
theorem putB_any (w : World) (p : Pl) (C : Cp) (a : Int) (r : Nat) (H : At w p C) (ok : Ok C) (hr1 : 1 ≤ r) (hr7 : r ≤ 7) (hT : Sh.Tab w) :
    Calls Tryd.prog 50 #[.pointer (some ⟨p.c, 0, none⟩), .pointer (some ⟨p.u, 0, none⟩), .int .i64 4096, .int .i64 a, .int .i64 r] w (PutR w p (putB C a r).1.1 (putB C a r).1.2 (putB C a r).2) := by
  obtain ⟨n, hn⟩ : ∃ n : Int, (C.N : Int) = n := ⟨_, rfl⟩
  have c1 : w.cell? ⟨p.c, 1, none⟩ = some (.int .i64 n) := by rw [← hn]; exact cell_of H.cells 1 rfl
  have HNn := Hid.of hn
  by_cases hN : 17592186044416 ≤ C.N
  · have e : putB C a r = ((0, 10), C) := by unfold putB; rw [if_pos hN]
    rw [e]
    have hd : decide ((17592186044416 : Int) ≤ n) = true := by simp; omega
    clear hN e hn
    go_enter Tryd.func50, Tryd.ntmps50
    go_wp2
    go_ret2
    exact ⟨rfl, H, Keeps.refl _ _⟩
  · have hd : decide ((17592186044416 : Int) ≤ n) = false := by simp; omega
    have q := Sh.take_any w p.u p.x C.B H.sb hT
    unfold Sh.takeR Sh.takeS at q
    cases hf : Sh.frees C.B with
    | nil =>
      have e : putB C a r = ((0, 10), C) := by unfold putB; rw [if_neg hN, hf]
      rw [e]
      rw [hf] at q
      dsimp only at q
      clear hN e hf hn
      go_enter Tryd.func50, Tryd.ntmps50
      go_wp2_with fail
      refine q.mono ?_
      rintro e w1 ⟨rfl, a1, k1⟩
      have HF : Hid (At w1 p C ∧ Keeps (Fp p) w w1) := Hid.of (And.intro (H.shelfB (C' := C) a1 k1 rfl) (k1.mono (fun x _ hx => (.inr (.inr (.inr hx)) : Fp p x))))
      clear q a1 k1
      go_wp2
      go_ret2
      exact ⟨rfl, HF.out⟩
    | cons k rest =>
      have e : putB C a r = ((Han.pk C.T (4096 + k) r C.N, 0), { C with N := C.N + 1, E := eset C.E ((4096 + k : Nat) : Int) ⟨r, C.N, a⟩, B := C.B.set k false }) := by unfold putB; rw [if_neg hN, hf]
      rw [e]
      rw [hf] at q
      dsimp only at q ⊢
      have hk := (Sh.frees_take hf).1
      have hk2 : 4096 + k ≤ 4159 := by have := ok.a; have := ok.b; omega
      have hNn : C.N ≤ 17592186044415 := by omega
      have qp := fun w => Han.pack_any w C.T (4096 + k) r C.N (by have := ok.t; omega) hk2 hr1 hr7 ok.n hNn
      obtain ⟨P, hP⟩ : ∃ P, Han.pk C.T (4096 + k) r C.N = P := ⟨_, rfl⟩
      rw [hP] at qp
      rw [hP]
      unfold Han.key at qp
      obtain ⟨z, hz⟩ : ∃ z : Int, ((4096 + k : Nat) : Int) = z := ⟨_, rfl⟩
      rw [hz] at qp
      rw [hz]
      have hsum : IntKind.i64.wrap (4096 + (k : Int)) = z := by rw [IntWalk.i64_in _ (by omega)]; omega
      have hinc : wrap64 (n + 1) = ((C.N + 1 : Nat) : Int) := by unfold wrap64; omega
      rw [hn] at qp
      have HS := Hid.of hsum
      have HI := Hid.of hinc
      clear hN e hf hk hk2 hP hz hsum hinc hr1 hr7 hn hNn
      go_enter Tryd.func50, Tryd.ntmps50
      go_wp2_with fail
      refine q.mono ?_
      rintro e w1 ⟨rfl, a1, k1⟩
      have H1 := H.shelfB (C' := { C with B := C.B.set k false }) a1 k1 rfl
      have K1 : Keeps (Fp p) w w1 := k1.mono (fun x _ hx => (.inr (.inr (.inr hx)) : Fp p x))
      obtain ⟨w2, up, M2, k2⟩ := H1.map.drew.upd (P := Tryd.prog) 3 Tryd.underlying78 Tryd.underlying3 z (⟨r, C.N, a⟩ : Slt)
      have H2 := H1.mapped (C' := { C with E := eset C.E z ⟨r, C.N, a⟩, B := C.B.set k false }) M2 k2.of_drew rfl rfl rfl rfl
      have K2 := K1.trans (k2.of_drew.mono (fun x _ hx => (.inr (.inl hx) : Fp p x)))
      unfold Slt.enc at up
      dsimp only at up
      rw [HNn.out] at up
      have m1 := cell_of (v := .map (some p.m)) H1.cells 2 rfl
      have n1 : w1.cell? ⟨p.c, 1, none⟩ = some (.int .i64 n) := by rw [← HNn.out]; exact cell_of H1.cells 1 rfl
      have HH2 := Hid.of (And.intro H2 K2)
      have t2 := cell_of (v := .int .i64 C.T) H2.cells 0 rfl
      have n2 : w2.cell? ⟨p.c, 1, none⟩ = some (.int .i64 n) := by rw [← HNn.out]; exact cell_of H2.cells 1 rfl
      have hs2 := HS.out
      clear q a1 k1 H1 K1 M2 k2 H2 K2 c1 hd
      go_wp2
      go_region
      clear m1 n1 up
      go_wp2
      have qq := qp w2.drew
      clear qp
      go_region_held3 (fun wx => wx.cell? ⟨p.c, 0, none⟩ = some (.int .i64 C.T) ∧ wx.cell? ⟨p.c, 1, none⟩ = some (.int .i64 n))
        (first | exact ⟨t2, n2⟩ | exact ⟨t3, n3⟩)
        (first
          | (go_at_call 61; refine qq.mono ?_; rintro e w3 ⟨rfl, k3⟩; have HH3 := Hid.of (And.intro (HH2.out.1.old k3.of_drew) (HH2.out.2.trans (k3.of_drew.mono (fun x _ hx => hx.elim)))); have t3 := cell_of (v := .int .i64 C.T) HH3.out.1.cells 0 rfl; have n3 : w3.cell? ⟨p.c, 1, none⟩ = some (.int .i64 n) := (by rw [← HNn.out]; exact cell_of HH3.out.1.cells 1 rfl); clear k3))
      clear t2 n2 hs2 qq
      have f3 := free_of HH3.out.1.cells 1
      have hinc := HI.out
      obtain ⟨w4, hw4⟩ : ∃ w4, w3.setCell ⟨p.c, 1, none⟩ (.int .i64 ((C.N : Int) + 1)) = w4 := ⟨_, rfl⟩
      have HF : Hid (At w4 p { C with N := C.N + 1, E := eset C.E z ⟨r, C.N, a⟩, B := C.B.set k false } ∧ Keeps (Fp p) w w4) := Hid.of (by
        rw [← hw4]
        exact And.intro (HH3.out.1.next (C.N + 1)) (HH3.out.2.setCell _ _ (.inl (.inl rfl))))
      clear t3
      go_wp2
      go_ret2
      exact ⟨rfl, HF.out⟩
end Ca
end Go.Proofs.YtagmkkddjdlncaaDoor
