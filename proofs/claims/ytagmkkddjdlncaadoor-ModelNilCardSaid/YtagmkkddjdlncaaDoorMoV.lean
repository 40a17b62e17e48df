/- The model's steps beside a block of the call's own; a part's do, joined; Object. -/
import Derived.Test.YtagmkkddjdlncaaDoorMoU
set_option linter.unusedVariables false
set_option linter.unusedSimpArgs false
namespace Go.Proofs.YtagmkkddjdlncaaDoor
open Go.RowKit Go.ChangeMaps
namespace Mo
/-- A model's steps beside a block B of the call's own (w0: the world ahead of it). -/
def MB (w0 : World) (B m : Nat) (M : MM) (p : Pls) (p' : Pls) (M' : MM) (w' : World) : Prop := MAt w' m M' p' ∧ Keeps (MFp m M p) w0 w' ∧ (∀ i, MFp m M' p' i → MFp m M p i ∨ (w0.heap.size ≤ i ∧ i ≠ B)) ∧ w0.heap.size ≤ B ∧ ¬ MFp m M p B ∧ B < w'.heap.size
theorem MB.start {w0 w : World} {B m : Nat} {M : MM} {p : Pls} (H : MAt w0 m M p) (k : Keeps (fun _ => False) w0 w) (h1 : w0.heap.size ≤ B) (h2 : B < w.heap.size) : MB w0 B m M p p M w :=
  ⟨H.old k, k.mono (fun _ _ x => x.elim), fun _ h => .inl h, h1, fun h => by have := H.lt h; omega, h2⟩
theorem MB.nf {w0 w : World} {B m : Nat} {M M1 : MM} {p p1 : Pls} (h : MB w0 B m M p p1 M1 w) : ¬ MFp m M1 p1 B := by
  obtain ⟨A, K, F, h1, h2, h3⟩ := h
  intro hx
  rcases F _ hx with h | ⟨_, h⟩
  · exact h2 h
  · exact h rfl
theorem MB.step {w0 w w2 : World} {B m : Nat} {M M1 M2 : MM} {p p1 : Pls} (h : MB w0 B m M p p1 M1 w) (r : MR w m M1 p1 M2 w2) : ∃ p2, MB w0 B m M p p2 M2 w2 ∧ Keeps (MFp m M1 p1) w w2 := by
  obtain ⟨A, K, F, h1, h2, h3⟩ := h
  obtain ⟨p2, A2, K2, F2⟩ := r
  refine ⟨p2, ⟨A2, K.trans' K2 (fun x hx hl => ?_), fun i hi => ?_, h1, h2, Nat.lt_of_lt_of_le h3 K2.size⟩, K2⟩
  · rcases F x hx with h | ⟨h, _⟩
    · exact h
    · omega
  · rcases F2 i hi with h | h
    · exact F i h
    · exact .inr ⟨Nat.le_trans K.size h, by omega⟩
theorem MB.old {w0 w w2 : World} {B m : Nat} {M M1 : MM} {p p1 : Pls} (h : MB w0 B m M p p1 M1 w) (k : Keeps (fun _ => False) w w2) : MB w0 B m M p p1 M1 w2 := by
  obtain ⟨A, K, F, h1, h2, h3⟩ := h
  exact ⟨A.old k, K.trans (k.mono (fun _ _ x => x.elim)), F, h1, h2, Nat.lt_of_lt_of_le h3 k.size⟩
theorem MB.set {w0 w w2 : World} {B m : Nat} {M M1 : MM} {p p1 : Pls} (h : MB w0 B m M p p1 M1 w) (k : Keeps (fun x => x = B) w w2) : MB w0 B m M p p1 M1 w2 := by
  have hn := h.nf
  obtain ⟨A, K, F, h1, h2, h3⟩ := h
  refine ⟨A.keep k (fun x hx e => hn (e ▸ hx)), K.trans' k (fun x hx hl => ?_), F, h1, h2, Nat.lt_of_lt_of_le h3 k.size⟩
  subst hx
  omega
theorem MB.mr {w0 w : World} {B m : Nat} {M M1 : MM} {p p1 : Pls} (h : MB w0 B m M p p1 M1 w) : MR w0 m M p M1 w := by
  obtain ⟨A, K, F, h1, h2, h3⟩ := h
  refine ⟨p1, A, K, fun i hi => ?_⟩
  rcases F i hi with h | ⟨h, _⟩
  · exact .inl h
  · exact .inr h
theorem MB.tab {w0 w : World} {B m : Nat} {M M1 : MM} {p p1 : Pls} (h : MB w0 B m M p p1 M1 w) (H : MAt w0 m M p) (hT : Sh.Tab w0) : Sh.Tab w := H.tab hT h.2.1
/-- A part's do, at any kind of its own. -/
theorem pdo_any (w : World) (p : Plc) (g : Int → Nat) (P : PP) (kind t n m : Int) (h : Nat) (d : Bs) (H : PAt w p g P) (ok : Ok P) (hT : Sh.Tab w) (hh : h < 18446744073709551616) (hd : d.length ≤ 8192)
    (hn : -9223372036854775808 ≤ n ∧ n ≤ 9223372036854775807) (hm : -9223372036854775808 ≤ m ∧ m ≤ 9223372036854775807) (hc : Op1.chk ⟨kind, t, n, m, h, bs d⟩ = 0) (hk : 4 ≤ kind) :
    Calls Tryd.prog 19 #[.pointer (some ⟨p.b, 0, none⟩), .agg #[.int .i64 kind, .int .i64 t, .int .i64 n, .int .i64 m, .int .u64 h, .string (bs d)]] w (DoR w p g P (pdo P kind n m h d).1 (pdo P kind n m h d).2) := by
  have hk2 := (chk_ok hc).1.2
  simp only at hk2
  have : kind = 4 ∨ kind = 5 ∨ kind = 6 ∨ kind = 7 ∨ kind = 8 ∨ kind = 9 ∨ kind = 10 ∨ kind = 11 := by omega
  rcases this with rfl | rfl | rfl | rfl | rfl | rfl | rfl | rfl
  · exact do_4 w p g P t n m h d H ok hT hh hd hn hm
  · exact do_5 w p g P t n m h d H ok hT hh hd hn hm hc
  · exact do_6 w p g P t n m h d H ok hT hh hd hn hm
  · exact do_7 w p g P t n m h d H ok hT hh hd hn hm
  · exact do_8 w p g P t n m h d H ok hT hh hd hn hm
  · exact do_9 w p g P t n m h d H ok hT hh hd hn hm
  · exact do_10 w p g P t n m h d H ok hT hh hd hn hm
  · exact do_11 w p g P t n m h d H ok hT hh hd hn hm
/-- An object's bytes, and whether there is one. -/
def object (M : MM) (i : Int) (h : Nat) : Bs × Bool :=
  match (if 0 ≤ i ∧ i < 8 then M.T i.toNat else none) with
  | none => ([], false)
  | some P => if (Ca.Fnd P.C h 0).2 = 0 then ((obj P (Ca.Fnd P.C h 0).1).bs, true) else ([], false)
set_option maxRecDepth 100000 in
set_option maxHeartbeats 2000000 in
theorem object_any (w : World) (m : Nat) (M : MM) (p : Pls) (i : Int) (h : Nat) (H : MAt w m M p) (ok : MOk M) (hh : h < 18446744073709551616) :
    Calls Tryd.prog 11 #[.pointer (some ⟨m, 0, none⟩), .int .i64 i, .int .u64 h] w fun e w' => e = .returned (.tuple #[.string (bs (object M i h).1), .bool (object M i h).2]) ∧ Keeps (fun _ => False) w w' := by
  have q := at_any w m M.Pg M.C (ptr M p) (fun i => (M.s i : Int)) i H.cells
  unfold object
  by_cases hi : 0 ≤ i ∧ i < 8
  · rw [if_pos hi]
    have e1 : prt (ptr M p) i = ptr M p i.toNat := by unfold prt; rw [if_pos hi]
    rw [e1] at q
    obtain ⟨j, hj⟩ : ∃ j, i.toNat = j := ⟨_, rfl⟩
    have hj8 : j < 8 := by omega
    rw [hj] at q ⊢
    cases hP : M.T j with
    | none =>
      have e2 : ptr M p j = none := by unfold ptr; rw [hP]; rfl
      rw [e2] at q
      dsimp only
      clear e1 e2 hP H ok hi hj
      go_enter Tryd.func11, Tryd.ntmps11
      go_wp2_with fail
      refine q.mono ?_
      rintro e w1 ⟨rfl, rfl⟩
      clear q
      go_wp2
      go_ret2
      exact ⟨rfl, Keeps.refl _ _⟩
    | some P =>
      have e2 : ptr M p j = some ⟨(p.pl j).b, 0, none⟩ := by unfold ptr; rw [hP]; rfl
      rw [e2] at q
      dsimp only
      have A := H.part j hj8 P hP
      have oP := (ok.part j hj8 P hP).1
      have q2 := Ca.Find_any w (p.pl j).c P.C h 0 A.caps hh
      have y0 := cell_of (v := .pointer (some ⟨(p.pl j).c.c, 0, none⟩)) A.cells 0 rfl
      by_cases hE : (Ca.Fnd P.C h 0).2 = 0
      · rw [if_pos hE]
        obtain ⟨o, ho⟩ := oP.fnd hE
        have hob : obj P (Ca.Fnd P.C h 0).1 = o := by unfold obj; rw [ho]; rfl
        rw [hob]
        rw [hE] at q2
        generalize (Ca.Fnd P.C h 0).1 = k at *
        have HA := Hid.of (And.intro A ho)
        obtain ⟨ob, oc⟩ := o
        dsimp only
        have hfl := fld_bytes
        clear e1 e2 hP H ok hi hj A oP hE ho hob
        go_enter Tryd.func11, Tryd.ntmps11
        go_wp2_with fail
        refine q.mono ?_
        rintro e w1 ⟨rfl, rfl⟩
        clear q
        go_wp2_with fail
        refine q2.mono ?_
        rintro e w2 ⟨rfl, k2⟩
        clear q2
        have A2 := HA.out.1.old k2
        have lk := A2.look HA.out.2
        have c4 := cell_of (v := .map (some (p.pl j).ob)) A2.cells 4 rfl
        have row : BAt w2 (p.gg j k) ob := A2.rows _ (eget_memE HA.out.2)
        have cv := string_of_bytes w2 (some ⟨p.gg j k, 0, none⟩) ob.length ob.length ob rfl row.rd0 (by simp)
        have HK := Hid.of k2
        clear k2 A2 row HA
        go_wp2
        go_ret2
        exact ⟨rfl, HK.out⟩
      · rw [if_neg hE]
        generalize (Ca.Fnd P.C h 0).1 = k at *
        generalize (Ca.Fnd P.C h 0).2 = E at *
        have t0 : (E != 0) = true := by simpa using hE
        clear e1 e2 hP H ok hi hj A oP hE
        go_enter Tryd.func11, Tryd.ntmps11
        go_wp2_with fail
        refine q.mono ?_
        rintro e w1 ⟨rfl, rfl⟩
        clear q
        go_wp2_with fail
        refine q2.mono ?_
        rintro e w2 ⟨rfl, k2⟩
        clear q2
        have HK := Hid.of k2
        clear k2
        go_wp2
        go_ret2
        exact ⟨rfl, HK.out⟩
  · rw [if_neg hi]
    have e1 : prt (ptr M p) i = none := by unfold prt; rw [if_neg hi]
    rw [e1] at q
    dsimp only
    clear e1 H ok hi
    go_enter Tryd.func11, Tryd.ntmps11
    go_wp2_with fail
    refine q.mono ?_
    rintro e w1 ⟨rfl, rfl⟩
    clear q
    go_wp2
    go_ret2
    exact ⟨rfl, Keeps.refl _ _⟩
end Mo
end Go.Proofs.YtagmkkddjdlncaaDoor
