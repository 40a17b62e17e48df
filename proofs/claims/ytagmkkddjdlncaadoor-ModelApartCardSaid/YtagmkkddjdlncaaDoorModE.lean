/- The model in memory; its walks Free, Charged, Object. | The model package's walks: create, destroy. | The model package's walk: resize. | The model's steps beside a block of the call's own; a part's do, joined; Object. | The model package's walk: Do (printed by gen_mdo.py). -/
import Derived.Test.YtagmkkddjdlncaaDoorModP
import Derived.Test.YtagmkkddjdlncaaDoorModD
set_option linter.unusedVariables false
set_option linter.unusedSimpArgs false
/-! The model in memory; its walks Free, Charged, Object. -/
namespace Go.Proofs.YtagmkkddjdlncaaDoor
open Go.RowKit Go.ChangeMaps
namespace Mo
/-- Where the parts lie. -/
structure Pls where
  pl : Nat → Plc
  gg : Nat → Int → Rw
def ptr (M : MM) (p : Pls) (i : Nat) : Option Addr := (M.T i).map fun _ => ⟨(p.pl i).b, 0, none⟩
def MFp (m : Nat) (M : MM) (p : Pls) (x : Nat) : Prop := x = m ∨ ∃ i, i < 8 ∧ ∃ P, M.T i = some P ∧ Fp (p.pl i) (p.gg i) P.E x
structure MAt (w : World) (m : Nat) (M : MM) (p : Pls) : Prop where
  cells : w.heap[m]? = some (.cells (md M.Pg M.C (fun i => .pointer (ptr M p i)) (fun i => (M.s i : Int))) 51 (0, 0))
  part : ∀ i, i < 8 → ∀ P, M.T i = some P → PAt w (p.pl i) (p.gg i) P
  nm : ∀ i, i < 8 → ∀ P, M.T i = some P → ¬ Fp (p.pl i) (p.gg i) P.E m
  apart : ∀ i j, i < 8 → j < 8 → i ≠ j → ∀ P Q, M.T i = some P → M.T j = some Q → ∀ x, Fp (p.pl i) (p.gg i) P.E x → ¬ Fp (p.pl j) (p.gg j) Q.E x
  off : m ≠ 0
/-- What a step of a model leaves. -/
def MR (w : World) (m : Nat) (M : MM) (p : Pls) (M' : MM) (w' : World) : Prop := ∃ p', MAt w' m M' p' ∧ Keeps (MFp m M p) w w' ∧ ∀ x, MFp m M' p' x → MFp m M p x ∨ w.heap.size ≤ x
theorem MAt.keep {F : Nat → Prop} {w w' : World} {m : Nat} {M : MM} {p : Pls} (h : MAt w m M p) (k : Keeps F w w') (hf : ∀ x, MFp m M p x → ¬ F x) : MAt w' m M p :=
  { h with
    cells := k.at h.cells (hf _ (.inl rfl))
    part := fun i hi P hP => (h.part i hi P hP).keep k (fun x hx => hf x (.inr ⟨i, hi, P, hP, hx⟩)) }
theorem MAt.old {w w' : World} {m : Nat} {M : MM} {p : Pls} (h : MAt w m M p) (k : Keeps (fun _ => False) w w') : MAt w' m M p := h.keep k (fun _ _ x => x)
theorem MAt.lt {w : World} {m : Nat} {M : MM} {p : Pls} (h : MAt w m M p) {x : Nat} (hx : MFp m M p x) : x < w.heap.size := by
  rcases hx with rfl | ⟨i, hi, P, hP, hx⟩
  · exact lt_of h.cells
  · exact (h.part i hi P hP).lt hx
theorem MR.refl {w w' : World} {m : Nat} {M : MM} {p : Pls} (h : MAt w m M p) (k : Keeps (fun _ => False) w w') : MR w m M p M w' := ⟨p, h.old k, k.mono (fun _ _ x => x.elim), fun _ hx => .inl hx⟩
theorem MAt.tab {w w' : World} {m : Nat} {M : MM} {p : Pls} (h : MAt w m M p) (hT : Sh.Tab w) (k : Keeps (MFp m M p) w w') : Sh.Tab w' := hT.keep k (by
  rintro (e | ⟨i, hi, P, hP, hx⟩)
  · exact h.off e.symm
  · exact (h.part i hi P hP).off hx)
theorem idx8 (q : Nat → Value) (hq : ∀ i, ∃ a, q i = .pointer a) {k : Nat} (hk : k < 8) (w : World) : (Instr.index 48 (.agg #[q 0, q 1, q 2, q 3, q 4, q 5, q 6, q 7]) (.int .i64 k)).run Tryd.prog w = .ok (q k) w := by
  obtain ⟨a0, e0⟩ := hq 0
  obtain ⟨a1, e1⟩ := hq 1
  obtain ⟨a2, e2⟩ := hq 2
  obtain ⟨a3, e3⟩ := hq 3
  obtain ⟨a4, e4⟩ := hq 4
  obtain ⟨a5, e5⟩ := hq 5
  obtain ⟨a6, e6⟩ := hq 6
  obtain ⟨a7, e7⟩ := hq 7
  rcases Cl.eight_cases hk with rfl | rfl | rfl | rfl | rfl | rfl | rfl | rfl
  all_goals
    rw [e0, e1, e2, e3, e4, e5, e6, e7]
    kernel_rfl
theorem chargedM_any (w : World) (m : Nat) (M : MM) (p : Pls) (i : Nat) (hi : i < 8) (H : MAt w m M p) (ok : MOk M) :
    Calls Tryd.prog 13 #[.pointer (some ⟨m, 0, none⟩), .int .i64 i] w fun e w' => e = .returned (.int .i64 (charged M i)) ∧ Keeps (fun _ => False) w w' := by
  have q := at_any w m M.Pg M.C (ptr M p) (fun i => (M.s i : Int)) (i : Int) H.cells
  have e1 : prt (ptr M p) (i : Int) = ptr M p i := by unfold prt; rw [if_pos (by omega), Int.toNat_natCast]
  rw [e1] at q
  cases hP : M.T i with
  | none =>
    have e2 : ptr M p i = none := by unfold ptr; rw [hP]; rfl
    have e3 : charged M i = 0 := by unfold charged; rw [hP]
    rw [e2] at q
    rw [e3]
    have q2 := chargedp_nil w
    clear e1 e2 e3 hP H ok
    go_enter Tryd.func13, Tryd.ntmps13
    go_wp2_with fail
    refine q.mono ?_
    rintro e w1 ⟨rfl, rfl⟩
    clear q
    go_wp2_with fail
    refine q2.mono ?_
    rintro e w1 ⟨rfl, rfl⟩
    clear q2
    go_wp2
    go_ret
    exact ⟨rfl, Keeps.refl _ _⟩
  | some P =>
    have e2 : ptr M p i = some ⟨(p.pl i).b, 0, none⟩ := by unfold ptr; rw [hP]; rfl
    have e3 : charged M i = sum P.E := by unfold charged; rw [hP]
    rw [e2] at q
    rw [e3]
    have oP := (ok.part i hi P hP).1
    have q2 := charged_any w (p.pl i) (p.gg i) P (H.part i hi P hP) (by have := oP.sum; have := oP.q; omega)
    generalize sum P.E = S at *
    clear e1 e2 e3 hP H ok oP
    go_enter Tryd.func13, Tryd.ntmps13
    go_wp2_with fail
    refine q.mono ?_
    rintro e w1 ⟨rfl, rfl⟩
    clear q
    go_wp2_with fail
    refine q2.mono ?_
    rintro e w1 ⟨rfl, k1⟩
    have HK := Hid.of k1
    clear q2 k1
    go_wp2
    go_ret
    exact ⟨rfl, HK.out⟩
set_option maxRecDepth 100000 in
set_option maxHeartbeats 2000000 in
theorem free_any (w : World) (m : Nat) (M : MM) (p : Pls) (H : MAt w m M p) (ok : MOk M) :
    Calls Tryd.prog 14 #[.pointer (some ⟨m, 0, none⟩)] w fun e w' => e = .returned (.int .i64 (free M)) ∧ w = w' := by
  have hx := fun (k : Nat) (hk : k < 8) (w : World) => idx8 (fun i => .pointer (ptr M p i)) (fun i => ⟨_, rfl⟩) hk w
  have HX := Hid.of hx
  have c1 := cell_of (v := .int .i64 M.C) H.cells 1 rfl
  have p0 := cell_of (v := .pointer (ptr M p 0)) H.cells 2 rfl
  have p1 := cell_of (v := .pointer (ptr M p 1)) H.cells 3 rfl
  have p2 := cell_of (v := .pointer (ptr M p 2)) H.cells 4 rfl
  have p3 := cell_of (v := .pointer (ptr M p 3)) H.cells 5 rfl
  have p4 := cell_of (v := .pointer (ptr M p 4)) H.cells 6 rfl
  have p5 := cell_of (v := .pointer (ptr M p 5)) H.cells 7 rfl
  have p6 := cell_of (v := .pointer (ptr M p 6)) H.cells 8 rfl
  have p7 := cell_of (v := .pointer (ptr M p 7)) H.cells 9 rfl
  have HH := Hid.of (And.intro H ok)
  clear H ok hx
  go_enter Tryd.func14, Tryd.ntmps14
  go_wp2
  clear p0 p1 p2 p3 p4 p5 p6 p7 c1
  go_loopw [3, 17] (fun v i wr => ∃ k : Nat, k ≤ 8 ∧ i = .int .i64 k ∧ v = .int .i64 (freeTo M k) ∧ wr = w) (fun v i _ => 8 - (intOf i).toNat)
  case atStart => exact ⟨0, by omega, rfl, rfl, rfl⟩
  case round =>
    obtain ⟨k, hk, rfl, rfl, rfl⟩ := hrel
    by_cases hlt : k < 8
    · have hki : (k : Int) < 8 := by omega
      have ix := HX.out k hlt wr
      try dsimp only at ix
      obtain ⟨r1, r2⟩ := free_range HH.out.2 k hk
      have hC := HH.out.2.c
      cases hP : M.T k with
      | none =>
        have e2 : ptr M p k = none := by unfold ptr; rw [hP]; rfl
        have e3 : freeTo M (k + 1) = freeTo M k := by simp only [freeTo, kof, hP]; omega
        rw [e2] at ix
        have E3 := Hid.of e3
        clear hP e2 e3 hlt r1 r2 hC
        go_wp2
        go_roundw
        case rel => exact ⟨k + 1, by omega, by go_num, by rw [E3.out], trivial⟩
        case measure => simp [intOf]; omega
      | some P =>
        have e2 : ptr M p k = some ⟨(p.pl k).b, 0, none⟩ := by unfold ptr; rw [hP]; rfl
        have e3 : freeTo M (k + 1) = freeTo M k - P.k := by simp only [freeTo, kof, hP]
        rw [e2] at ix
        have hpk := (HH.out.2.part k hlt P hP).1.k
        have cP := cell_of (v := .int .i64 P.k) (HH.out.1.part k hlt P hP).cells 1 rfl
        have ws : wrap64 (freeTo M k - P.k) = freeTo M k - P.k := by unfold wrap64; omega
        rw [← e3] at ws
        have E3 := Hid.of e3
        clear hP e2 hlt r1 r2 hC hpk e3
        have ws2 : wrap64 (freeTo M k - P.k) = freeTo M (k + 1) := by rw [← E3.out]; exact ws
        have HW := Hid.of ws2
        clear ws E3 ws2
        go_wp2
        go_roundw
        case rel => exact ⟨k + 1, by omega, by go_num, by rw [HW.out], trivial⟩
        case measure => simp [intOf]; omega
    · obtain rfl : k = 8 := by omega
      go_wp2
      go_ret
      exact ⟨rfl, rfl⟩
end Mo
end Go.Proofs.YtagmkkddjdlncaaDoor

/-! The model package's walks: create, destroy. -/
namespace Go.Proofs.YtagmkkddjdlncaaDoor
open Go.RowKit Go.ChangeMaps
namespace Mo
def ErR (w : World) (m : Nat) (M : MM) (p : Pls) (E : Int) (M' : MM) (e : Ending) (w' : World) : Prop := e = .returned (.int .i64 E) ∧ MR w m M p M' w'
/-- A part is put into its place, or taken out: the model behind it. -/
theorem MAt.place {w w1 w2 : World} {m : Nat} {M : MM} {p : Pls} (H : MAt w m M p) {i : Nat} (hi : i < 8) {Q : Option PP} {n : Nat} {b : Plc} {g : Int → Rw}
    (k1 : Keeps (fun _ => False) w w1) (k2 : Keeps (fun x => x = m) w1 w2)
    (hc : w2.heap[m]? = some (.cells (md M.Pg M.C (fun j => .pointer (if j = i then Q.map (fun _ => ⟨b.b, 0, none⟩) else ptr M p j)) (fun j => if j = i then (n : Int) else (M.s j : Int))) 51 (0, 0)))
    (hQ : ∀ P, Q = some P → PAt w2 b g P ∧ ∀ x, Fp b g P.E x → w.heap.size ≤ x) (hm : m < w.heap.size) :
    MR w m M p { M with T := upd M.T i Q, s := upd M.s i n } w2 := by
  have hT : ∀ {j P}, (upd M.T i Q) j = some P → (j = i ∧ Q = some P) ∨ (j ≠ i ∧ M.T j = some P) := by
    intro j P h
    by_cases e : j = i
    · subst e; rw [upd_same] at h; exact .inl ⟨rfl, h⟩
    · rw [upd_other _ _ e] at h; exact .inr ⟨e, h⟩
  have hfp : ∀ x, MFp m { M with T := upd M.T i Q, s := upd M.s i n } ⟨upd p.pl i b, upd p.gg i g⟩ x → MFp m M p x ∨ w.heap.size ≤ x := by
    rintro x (e | ⟨j, hj, P, hP, hx⟩)
    · exact .inl (.inl e)
    · rcases hT hP with ⟨rfl, hq⟩ | ⟨hne, hq⟩
      · right
        simp only [upd_same] at hx
        exact (hQ P hq).2 x hx
      · left
        simp only [upd_other _ _ hne] at hx
        exact .inr ⟨j, hj, P, hq, hx⟩
  refine ⟨⟨upd p.pl i b, upd p.gg i g⟩, ⟨?_, ?_, ?_, ?_, H.off⟩, (k1.mono (fun _ _ x => x.elim)).trans (k2.mono (fun x _ hx => .inl hx)), hfp⟩
  · rw [hc]
    congr 3
    · funext j
      unfold ptr
      by_cases e : j = i
      · subst e; simp only [if_true, upd_same]
      · simp only [if_neg e, upd_other _ _ e]
    · funext j
      by_cases e : j = i
      · subst e; simp only [if_true, upd_same]
      · simp only [if_neg e, upd_other _ _ e]
  · intro j hj P hP
    rcases hT hP with ⟨rfl, hq⟩ | ⟨hne, hq⟩
    · simp only [upd_same]; exact (hQ P hq).1
    · simp only [upd_other _ _ hne]
      exact ((H.part j hj P hq).old k1).keep k2 (fun x hx e => H.nm j hj P hq (e ▸ hx))
  · intro j hj P hP hx
    rcases hT hP with ⟨rfl, hq⟩ | ⟨hne, hq⟩
    · simp only [upd_same] at hx
      have := (hQ P hq).2 m hx
      omega
    · simp only [upd_other _ _ hne] at hx
      exact H.nm j hj P hq hx
  · intro j k hj hk hjk P R hP hR x hx hy
    rcases hT hP with ⟨rfl, hq⟩ | ⟨hne, hq⟩
    · rcases hT hR with ⟨rfl, hr⟩ | ⟨hne', hr⟩
      · exact hjk rfl
      · simp only [upd_same] at hx
        simp only [upd_other _ _ hne'] at hy
        have h1 := (hQ P hq).2 x hx
        have h2 := H.lt (.inr ⟨k, hk, R, hr, hy⟩)
        omega
    · rcases hT hR with ⟨rfl, hr⟩ | ⟨hne', hr⟩
      · simp only [upd_same] at hy
        simp only [upd_other _ _ hne] at hx
        have h1 := (hQ R hr).2 x hy
        have h2 := H.lt (.inr ⟨j, hj, P, hq, hx⟩)
        omega
      · simp only [upd_other _ _ hne] at hx
        simp only [upd_other _ _ hne'] at hy
        exact H.apart j k hj hk hjk P R hq hr x hx hy
set_option maxRecDepth 100000 in
set_option maxHeartbeats 2000000 in
theorem destroy_any (w : World) (m : Nat) (M : MM) (p : Pls) (i : Nat) (hi : i < 8) (H : MAt w m M p) (ok : MOk M) :
    Calls Tryd.prog 18 #[.pointer (some ⟨m, 0, none⟩), .int .i64 i] w (ErR w m M p (destroy M i).1 (destroy M i).2) := by
  have hii : (i : Int) < 8 := by omega
  have d : decide (8 ≤ i) = false := by simp; omega
  have c := cell_of H.cells (2 + i) (md_part M.Pg M.C _ _ hi)
  have cs := cell_of H.cells (10 + i) (md_ser M.Pg M.C _ _ hi)
  have fs := free_of H.cells (10 + i)
  cases hP : M.T i with
  | none =>
    have e1 : destroy M i = (6, M) := by unfold destroy; rw [hP]
    have e2 : ptr M p i = none := by unfold ptr; rw [hP]; rfl
    rw [e1]
    rw [e2] at c
    have HF := Hid.of (MR.refl H (Keeps.refl _ _))
    clear e1 e2 hP H ok cs fs hi
    go_enter Tryd.func18, Tryd.ntmps18
    go_wp2
    go_ret
    exact ⟨rfl, HF.out⟩
  | some P =>
    have e1 : destroy M i = (0, { M with T := upd M.T i none, s := upd M.s i P.C.N }) := by unfold destroy; rw [hP]
    have e2 : ptr M p i = some ⟨(p.pl i).b, 0, none⟩ := by unfold ptr; rw [hP]; rfl
    rw [e1]
    rw [e2] at c
    have A := H.part i hi P hP
    have q := Ca.serial_any w.drew (p.pl i).c P.C A.drew.caps
    have y0 := cell_of (v := .pointer (some ⟨(p.pl i).c.c, 0, none⟩)) A.cells 0 rfl
    have hnm := H.nm i hi P hP
    obtain ⟨w1, hw1⟩ : ∃ w1, w.drew.setCell ⟨m, 10 + i, none⟩ (.int .i64 P.C.N) = w1 := ⟨_, rfl⟩
    obtain ⟨w2, hw2⟩ : ∃ w2, w1.setCell ⟨m, 2 + i, none⟩ (.pointer none) = w2 := ⟨_, rfl⟩
    have h1 : w1.heap[m]? = some (.cells (md M.Pg M.C (fun i => .pointer (ptr M p i)) (fun j => if j = i then (P.C.N : Int) else (M.s j : Int))) 51 (0, 0)) := by
      have := set_of (w := w.drew) H.cells (10 + i) (.int .i64 P.C.N)
      rw [md_setser _ _ _ _ _ hi, hw1] at this
      exact this
    have c1 := cell_of h1 (2 + i) (md_part M.Pg M.C _ _ hi)
    have f1 := free_of h1 (2 + i)
    have h2 : w2.heap[m]? = some (.cells (md M.Pg M.C (fun j => .pointer (if j = i then (none : Option PP).map (fun _ => ⟨(p.pl i).b, 0, none⟩) else ptr M p j)) (fun j => if j = i then (P.C.N : Int) else (M.s j : Int))) 51 (0, 0)) := by
      have := set_of h1 (2 + i) (.pointer none)
      rw [md_setpart _ _ _ _ _ hi, hw2] at this
      rw [this]
      congr 3
      funext j
      by_cases e : j = i <;> simp [e]
    have k01 : Keeps (fun _ => False) w w.drew := (Keeps.refl _ _).drew
    have k12 : Keeps (fun x => x = m) w.drew w2 := by rw [← hw2, ← hw1]; exact (kset _ m _ _).trans (kset _ m _ _)
    have y1 := keep_cell (show Keeps (fun x => x = m) w w1 by rw [← hw1]; exact k01.mono (fun _ _ x => x.elim) |>.trans (kset _ m _ _)) (fun e => hnm (e ▸ .inl rfl)) y0
    have HF := Hid.of (MAt.place H hi (Q := none) (b := p.pl i) (g := p.gg i) k01 k12 h2 (fun P e => by cases e) (lt_of H.cells))
    clear e1 e2 hP H ok A hnm h1 h2 k01 k12 hi
    go_enter Tryd.func18, Tryd.ntmps18
    go_wp2
    go_region_held3 (fun wx => wx.cell? ⟨(p.pl i).b, 0, none⟩ = some (.pointer (some ⟨(p.pl i).c.c, 0, none⟩)))
      (first | exact y0 | exact y1)
      (first
        | (go_at_call 31; refine q.mono ?_; clear q; rintro e w3 ⟨rfl, rfl⟩))
    clear y0 y1 cs fs c
    go_wp2
    go_ret
    exact ⟨rfl, HF.out⟩
set_option maxRecDepth 100000 in
set_option maxHeartbeats 2000000 in
theorem create_any (w : World) (m : Nat) (M : MM) (p : Pls) (i : Nat) (hi : i < 8) (cc q : Int) (H : MAt w m M p) (ok : MOk M) (hT : Sh.Tab w) :
    Calls Tryd.prog 16 #[.pointer (some ⟨m, 0, none⟩), .int .i64 i, .int .i64 cc, .int .i64 q] w (ErR w m M p (create M i cc q).1 (create M i cc q).2) := by
  have hii : (i : Int) < 8 := by omega
  have d : decide (8 ≤ i) = false := by simp; omega
  have c := cell_of H.cells (2 + i) (md_part M.Pg M.C _ _ hi)
  have c0 := cell_of (v := .int .i64 M.Pg) H.cells 0 rfl
  have c1 := cell_of (v := .int .i64 M.C) H.cells 1 rfl
  cases hP : M.T i with
  | some P =>
    have e1 : create M i cc q = (7, M) := by unfold create; rw [hP]; rfl
    have e2 : ptr M p i = some ⟨(p.pl i).b, 0, none⟩ := by unfold ptr; rw [hP]; rfl
    rw [e1]
    rw [e2] at c
    have HF := Hid.of (MR.refl H (Keeps.refl _ _))
    clear e1 e2 hP H ok hi hT c0 c1
    go_enter Tryd.func16, Tryd.ntmps16
    go_wp2
    go_ret
    exact ⟨rfl, HF.out⟩
  | none =>
    have e2 : ptr M p i = none := by unfold ptr; rw [hP]; rfl
    rw [e2] at c
    have q1 := may_any w m M.C cc q c1
    have eC : create M i cc q = if may M.C cc q = false then (2, M) else if Dem.fits q (room M cc) = false then (8, M) else if free M < cc then (9, M) else (0, { M with T := upd M.T i (some (newPart i (M.s i) cc.toNat q.toNat)) }) := by
      unfold create; rw [hP, if_neg (by simp)]
    rw [eC]
    by_cases hm : may M.C cc q = false
    · rw [if_pos hm]
      rw [hm] at q1
      have HF := Hid.of (MR.refl H (Keeps.refl _ _))
      clear eC e2 hP H ok hi hT c0 c1 hm
      go_enter Tryd.func16, Tryd.ntmps16
      go_wp2_with fail
      refine q1.mono ?_
      rintro e w1 ⟨rfl, rfl⟩
      clear q1
      go_wp2
      go_ret
      exact ⟨rfl, HF.out⟩
    · rw [if_neg hm]
      have hm' : may M.C cc q = true := by simpa using hm
      obtain ⟨hq, hc1, hc2⟩ := may_iff.1 hm'
      have okC := ok.c
      obtain ⟨cn, rfl⟩ : ∃ cn : Nat, cc = cn := ⟨cc.toNat, by omega⟩
      rw [hm'] at q1
      have q2 := room_any w m M.Pg M.C cn c0 c1 ok.p.2 ok.c.1 (by omega)
      have er : ((cn * (M.Pg / M.C) : Nat) : Int) = room M cn := by unfold room; rw [Int.toNat_natCast]
      rw [er] at q2
      have q3 := fun w => Dem.fits_any w q (room M cn)
      generalize room M cn = rm at *
      by_cases hf : Dem.fits q rm = false
      · rw [if_pos hf]
        rw [hf] at q3
        have HH := Hid.of H
        clear eC e2 hP H ok hi hT c0 c1 hm hm' er hf okC
        go_enter Tryd.func16, Tryd.ntmps16
        go_wp2_with fail
        refine q1.mono ?_
        rintro e w1 ⟨rfl, rfl⟩
        clear q1
        go_wp2_with fail
        refine q2.mono ?_
        rintro e w2 ⟨rfl, k2⟩
        have q3' := q3 w2
        have HF := Hid.of (MR.refl HH.out k2)
        clear q2 q3 k2
        go_wp2_with fail
        refine q3'.mono ?_
        rintro e w3 ⟨rfl, rfl⟩
        clear q3'
        go_wp2
        go_ret
        exact ⟨rfl, HF.out⟩
      · rw [if_neg hf]
        have hf' : Dem.fits q rm = true := by simpa using hf
        rw [hf'] at q3
        have q4 := fun w' (k : Keeps (fun _ => False) w w') => free_any w' m M p (H.old k) ok
        obtain ⟨fr, hfr⟩ : ∃ fr, free M = fr := ⟨_, rfl⟩
        rw [hfr] at q4 ⊢
        by_cases hlt : fr < (cn : Int)
        · rw [if_pos hlt]
          have t1 : decide (fr < (cn : Int)) = true := by simpa using hlt
          have HH := Hid.of H
          have HQ := Hid.of q4
          clear eC e2 hP H ok hi hT c0 c1 hm hm' er hf okC q4 hfr hlt
          go_enter Tryd.func16, Tryd.ntmps16
          go_wp2_with fail
          refine q1.mono ?_
          rintro e w1 ⟨rfl, rfl⟩
          clear q1
          go_wp2_with fail
          refine q2.mono ?_
          rintro e w2 ⟨rfl, k2⟩
          have q3' := q3 w2
          have q4' := HQ.out w2 k2
          have HF := Hid.of (MR.refl HH.out k2)
          clear q2 q3 k2 HQ
          go_wp2_with fail
          refine q3'.mono ?_
          rintro e w3 ⟨rfl, rfl⟩
          clear q3'
          go_wp2_with fail
          refine q4'.mono ?_
          rintro e w3 ⟨rfl, rfl⟩
          clear q4'
          go_wp2
          go_ret
          exact ⟨rfl, HF.out⟩
        · rw [if_neg hlt]
          have t1 : decide (fr < (cn : Int)) = false := by simpa using hlt
          obtain ⟨qn, rfl⟩ : ∃ qn : Nat, q = qn := ⟨q.toNat, by omega⟩
          rw [Int.toNat_natCast, Int.toNat_natCast]
          have q5 := fun w' (k : Keeps (fun _ => False) w w') => Ca.new_any w' i (M.s i) hi (ok.s i hi).1 (ok.s i hi).2 ((hT.old k).lt)
          have HH := Hid.of H
          have HQ := Hid.of (And.intro q4 q5)
          obtain ⟨si, hsi⟩ : ∃ si, M.s i = si := ⟨_, rfl⟩
          rw [hsi] at q5 HQ ⊢
          have HT := Hid.of hT
          have HI := Hid.of (And.intro hi (And.intro hsi okC))
          clear eC e2 hP H ok hi hT c0 c1 hm hm' er hf okC q4 q5 hfr hlt hsi hc1 hc2 hq
          go_enter Tryd.func16, Tryd.ntmps16
          go_wp2_with fail
          refine q1.mono ?_
          rintro e w1 ⟨rfl, rfl⟩
          clear q1
          go_wp2_with fail
          refine q2.mono ?_
          rintro e w2 ⟨rfl, k2⟩
          have q3' := q3 w2
          have q4' := HQ.out.1 w2 k2
          have q5' := HQ.out.2 w2 k2
          have HK2 := Hid.of k2
          have cs : w2.cell? ⟨m, 10 + i, none⟩ = some (.int .i64 si) := by rw [← HI.out.2.1]; exact cell_of (HH.out.old k2).cells (10 + i) (md_ser M.Pg M.C _ _ HI.out.1)
          clear q2 q3 k2 HQ
          go_wp2_with fail
          refine q3'.mono ?_
          rintro e w3 ⟨rfl, rfl⟩
          clear q3'
          go_wp2_with fail
          refine q4'.mono ?_
          rintro e w3 ⟨rfl, rfl⟩
          clear q4'
          go_wp2_with fail
          refine q5'.mono ?_
          rintro e w5 ⟨cp, rfl, a5, f5, k5⟩
          clear q5'
          have hmm := @run_makeMap Tryd.prog
          have HA := Hid.of (And.intro a5 (And.intro f5 k5))
          clear a5 f5 k5 cs
          obtain ⟨ob, hob⟩ : ∃ ob, w5.heap.size = ob := ⟨_, rfl⟩
          obtain ⟨w6, hw6⟩ : ∃ w6, w5.alloc (.map #[] 0) = w6 := ⟨_, rfl⟩
          obtain ⟨b, hb⟩ : ∃ b, w6.heap.size = b := ⟨_, rfl⟩
          obtain ⟨w7, hw7⟩ : ∃ w7, w6.alloc (.cells #[.pointer (some ⟨cp.c, 0, none⟩), .int .i64 cn, .int .i64 qn, .int .i64 qn, .map (some ob), .int .i64 0] 58) = w7 := ⟨_, rfl⟩
          obtain ⟨w8, hw8⟩ : ∃ w8, w7.setCell ⟨m, 2 + i, none⟩ (.pointer (some ⟨b, 0, none⟩)) = w8 := ⟨_, rfl⟩
          have HF : Hid (MR w m M p { M with T := upd M.T i (some (newPart i si cn qn)) } w8 ∧ w7.cell? ⟨m, 2 + i, none⟩ = some (.pointer none) ∧ w7.frozen? ⟨m, 2 + i, none⟩ = false) := Hid.of (by
            obtain ⟨a5, f5, k5⟩ := HA.out
            obtain ⟨hi, hsi, -⟩ := HI.out
            have hml := lt_of HH.out.cells
            have K5 := HK2.out.trans k5
            have k6 : Keeps (fun _ => False) w5 w6 := by rw [← hw6]; exact (Keeps.refl _ _).alloc _
            have k7 : Keeps (fun _ => False) w6 w7 := by rw [← hw7]; exact (Keeps.refl _ _).alloc _
            have k8 : Keeps (fun x => x = m) w7 w8 := by rw [← hw8]; exact kset _ m _ _
            have K7 := (K5.trans k6).trans k7
            have s2 := HK2.out.size
            have s5 := K5.size
            have s6 := k6.size
            have hob6 : ob < w6.heap.size := by rw [← hw6, ← hob]; simp
            have m6 : EMap oenc w6 ob (tag (fun _ => ⟨0, []⟩) []) := by rw [← hw6, ← hob]; exact EMap.new _ _
            have b7 : w7.heap[b]? = some (.cells (pcells cp.c cn qn qn ob 0) 58 (0, 0)) := by rw [← hw7, ← hb]; exact alloc_new _ _
            have H7 := HH.out.old K7
            have hcf : ∀ x, Ca.Fp cp x → w2.heap.size ≤ x ∧ x < w5.heap.size := fun x hx => ⟨f5 x hx, a5.lt hx⟩
            have hmc : ¬ Ca.Fp cp m := fun hx => by have := (hcf m hx).1; omega
            have fr : ∀ x, Fp ⟨b, ob, cp⟩ (fun _ => ⟨0, []⟩) (newPart i si cn qn).E x → w.heap.size ≤ x := by
              rintro x (h | h | h | ⟨y, hy, h⟩)
              · simp only at h; omega
              · simp only at h; omega
              · have := (hcf x h).1; omega
              · exact (List.not_mem_nil (show y ∈ ([] : List (Int × MO)) from hy)).elim
            have hpt : w7.heap[m]? = some (.cells (md M.Pg M.C (fun i => .pointer (ptr M p i)) (fun i => (M.s i : Int))) 51 (0, 0)) := H7.cells
            have h8 := set_of hpt (2 + i) (.pointer (some ⟨b, 0, none⟩))
            rw [md_setpart _ _ _ _ _ hi, hw8] at h8
            have e2 : ptr M p i = none := by
              have h1 := c
              rw [cell_of HH.out.cells (2 + i) (md_part M.Pg M.C _ _ hi)] at h1
              simpa using h1
            have PA : PAt w8 ⟨b, ob, cp⟩ (fun _ => ⟨0, []⟩) (newPart i si cn qn) := by
              refine ⟨k8.at b7 (by show ¬ b = m; omega), ((a5.old k6).old k7).keep k8 (fun x hx e => hmc (e ▸ hx)), (m6.keep k7 (fun x => x)).keep k8 (by show ¬ ob = m; omega), fun x hx => (List.not_mem_nil (show x ∈ ([] : List (Int × MO)) from hx)).elim, fun x hx => (List.not_mem_nil (show x ∈ ([] : List (Int × MO)) from hx)).elim, ?_, ?_, ?_, fun x hx => (List.not_mem_nil (show x ∈ ([] : List (Int × MO)) from hx)).elim, fun h => ?_⟩
              · show b ≠ ob; omega
              · intro h; have := (hcf _ h).2; simp only at this; omega
              · intro h; have := (hcf _ h).2; simp only at this; omega
              · have := fr _ h; have := HT.out.lt; omega
            have R := MAt.place HH.out hi (Q := some (newPart i si cn qn)) (n := si) (b := ⟨b, ob, cp⟩) (g := fun _ => ⟨0, []⟩) K7 k8 (by
              rw [h8]
              congr 3
              · funext j
                by_cases e : j = i <;> simp [e]
              · funext j
                by_cases e : j = i
                · subst e; simp [hsi]
                · simp [e]) (fun P e => by cases e; exact ⟨PA, fr⟩) hml
            rw [← hsi, upd_self] at R
            rw [← hsi]
            refine ⟨R, ?_, free_of hpt (2 + i)⟩
            rw [← e2]
            exact cell_of hpt (2 + i) (md_part M.Pg M.C _ _ hi))
          obtain ⟨HR, u1, u2⟩ := HF.out
          have HF' := Hid.of HR
          clear HF HR HA HK2 HH HT HI
          go_wp2
          go_ret
          exact ⟨rfl, HF'.out⟩
end Mo
end Go.Proofs.YtagmkkddjdlncaaDoor

/-! The model package's walk: resize. -/
namespace Go.Proofs.YtagmkkddjdlncaaDoor
open Go.RowKit Go.ChangeMaps
namespace Mo
theorem MR.trans {w w1 w2 : World} {m : Nat} {M M1 M2 : MM} {p p1 : Pls} (k : Keeps (MFp m M p) w w1) (hf : ∀ x, MFp m M1 p1 x → MFp m M p x ∨ w.heap.size ≤ x) (h : MR w1 m M1 p1 M2 w2) : MR w m M p M2 w2 := by
  obtain ⟨p2, A, K, F⟩ := h
  refine ⟨p2, A, k.trans' K (fun x hx hl => ?_), fun x hx => ?_⟩
  · rcases hf x hx with h | h
    · exact h
    · omega
  · rcases F x hx with h | h
    · exact hf x h
    · exact .inr (Nat.le_trans k.size h)
theorem MR.after {w w1 w2 : World} {m : Nat} {M M2 : MM} {p : Pls} (k : Keeps (fun _ => False) w w1) (h : MR w1 m M p M2 w2) : MR w m M p M2 w2 :=
  MR.trans (k.mono (fun _ _ x => x.elim)) (fun _ h => .inl h) h
/-- A part's step is the model's. -/
theorem MAt.step {w w' : World} {m : Nat} {M : MM} {p : Pls} (H : MAt w m M p) {i : Nat} (hi : i < 8) {P P' : PP} (hP : M.T i = some P) {g' : Int → Rw} (r : PRG w (p.pl i) (p.gg i) P g' P' w') : MR w m M p { M with T := upd M.T i (some P') } w' := by
  obtain ⟨A, K, F⟩ := r
  have hT : ∀ {j Q}, (upd M.T i (some P')) j = some Q → (j = i ∧ P' = Q) ∨ (j ≠ i ∧ M.T j = some Q) := by
    intro j Q h
    by_cases e : j = i
    · subst e; rw [upd_same] at h; exact .inl ⟨rfl, Option.some.inj h⟩
    · rw [upd_other _ _ e] at h; exact .inr ⟨e, h⟩
  refine ⟨⟨p.pl, upd p.gg i g'⟩, ⟨?_, ?_, ?_, ?_, H.off⟩, K.mono (fun x _ hx => .inr ⟨i, hi, P, hP, hx⟩), ?_⟩
  · have := K.at H.cells (H.nm i hi P hP)
    rw [this]
    congr 3
    funext j
    unfold ptr
    by_cases e : j = i
    · subst e; simp only [upd_same, hP]; rfl
    · simp only [upd_other _ _ e]
  · intro j hj Q hQ
    rcases hT hQ with ⟨rfl, rfl⟩ | ⟨hne, hq⟩
    · simp only [upd_same]; exact A
    · simp only [upd_other _ _ hne]
      exact (H.part j hj Q hq).keep K (fun x hx hy => H.apart j i hj hi hne Q P hq hP x hx hy)
  · intro j hj Q hQ hx
    rcases hT hQ with ⟨rfl, rfl⟩ | ⟨hne, hq⟩
    · simp only [upd_same] at hx
      rcases F m hx with h | h
      · exact H.nm j hj P hP h
      · have := lt_of H.cells; omega
    · simp only [upd_other _ _ hne] at hx
      exact H.nm j hj Q hq hx
  · intro j k hj hk hjk Q R hQ hR x hx hy
    rcases hT hQ with ⟨rfl, rfl⟩ | ⟨hne, hq⟩
    · rcases hT hR with ⟨rfl, rfl⟩ | ⟨hne', hr⟩
      · exact hjk rfl
      · simp only [upd_same] at hx
        simp only [upd_other _ _ hne'] at hy
        rcases F x hx with h | h
        · exact H.apart j k hj hk hjk P R hP hr x h hy
        · have := H.lt (.inr ⟨k, hk, R, hr, hy⟩); omega
    · rcases hT hR with ⟨rfl, rfl⟩ | ⟨hne', hr⟩
      · simp only [upd_same] at hy
        simp only [upd_other _ _ hne] at hx
        rcases F x hy with h | h
        · exact H.apart j k hj hk hjk Q P hq hP x hx h
        · have := H.lt (.inr ⟨j, hj, Q, hq, hx⟩); omega
      · simp only [upd_other _ _ hne] at hx
        simp only [upd_other _ _ hne'] at hy
        exact H.apart j k hj hk hjk Q R hq hr x hx hy
  · rintro x (e | ⟨j, hj, Q, hQ, hx⟩)
    · exact .inl (.inl e)
    · rcases hT hQ with ⟨rfl, rfl⟩ | ⟨hne, hq⟩
      · simp only [upd_same] at hx
        rcases F x hx with h | h
        · exact .inl (.inr ⟨j, hj, P, hP, h⟩)
        · exact .inr h
      · simp only [upd_other _ _ hne] at hx
        exact .inl (.inr ⟨j, hj, Q, hq, hx⟩)
theorem PAt.sets {w : World} {p : Plc} {g : Int → Rw} {P : PP} (h : PAt w p g P) (k' q' t' : Nat) :
    PRG w p g P g { P with k := k', q := q', t := t' } (((w.setCell ⟨p.b, 3, none⟩ (.int .i64 t')).setCell ⟨p.b, 1, none⟩ (.int .i64 k')).setCell ⟨p.b, 2, none⟩ (.int .i64 q')) := by
  have kp : Keeps (fun x => x = p.b) w (((w.setCell ⟨p.b, 3, none⟩ (.int .i64 t')).setCell ⟨p.b, 1, none⟩ (.int .i64 k')).setCell ⟨p.b, 2, none⟩ (.int .i64 q')) := ((kset _ p.b 3 _).trans (kset _ p.b 1 _)).trans (kset _ p.b 2 _)
  exact ⟨{ h with
    cells := set_of (set_of (set_of h.cells 3 _) 1 _) 2 _
    caps := h.caps.keep kp (fun x hx e => h.bc (e ▸ hx))
    map := h.map.keep kp (fun e => h.bo e.symm)
    rows := fun x hx => (h.rows x hx).keep kp (h.rb x hx).1 }, kp.mono (fun x _ hx => .inl hx), fun _ h => .inl h⟩
theorem nextP_any (w : World) (p : Plc) (g : Int → Rw) (P : PP) (z : Nat) (H : PAt w p g P) (ok : Ok P) :
    Calls Tryd.prog 30 #[.pointer (some ⟨p.b, 0, none⟩), .int .i64 z] w fun e w' => e = .returned (.int .i64 (nxt P z)) ∧ w = w' := by
  have hlen : (encs oenc (tag g P.E)).length = P.E.length := by simp [encs, tag]
  have q := next_any w p.b p.c.c p.ob P.k P.q P.t P.n z (encs oenc (tag g P.E)) H.cells H.map (by rw [hlen]; have := sum_len ok; omega)
  have e : next (encs oenc (tag g P.E)) P.t z = (nxt P z : Int) := by
    unfold next nxt
    rw [hlen]
    split
    · rfl
    · omega
  rw [e] at q
  exact q
set_option maxRecDepth 100000 in
set_option maxHeartbeats 2000000 in
theorem resize_any (w : World) (m : Nat) (M : MM) (p : Pls) (i : Nat) (hi : i < 8) (cc q : Int) (hcc : -9223372036854775808 ≤ cc ∧ cc ≤ 9223372036854775807) (H : MAt w m M p) (ok : MOk M) :
    Calls Tryd.prog 17 #[.pointer (some ⟨m, 0, none⟩), .int .i64 i, .int .i64 cc, .int .i64 q] w (ErR w m M p (resize M i cc q).1 (resize M i cc q).2) := by
  have hii : (i : Int) < 8 := by omega
  have d : decide (8 ≤ i) = false := by simp; omega
  have c := cell_of H.cells (2 + i) (md_part M.Pg M.C _ _ hi)
  have c0 := fun w' (k : Keeps (fun _ => False) w w') => cell_of (v := .int .i64 M.Pg) (H.old k).cells 0 rfl
  have c1 := cell_of (v := .int .i64 M.C) H.cells 1 rfl
  have c1' := fun w' (k : Keeps (fun _ => False) w w') => cell_of (v := .int .i64 M.C) (H.old k).cells 1 rfl
  cases hP : M.T i with
  | none =>
    have e1 : resize M i cc q = (6, M) := by unfold resize; rw [hP]
    have e2 : ptr M p i = none := by unfold ptr; rw [hP]; rfl
    rw [e1]
    rw [e2] at c
    have HF := Hid.of (MR.refl H (Keeps.refl _ _))
    clear e1 e2 hP H ok hi c0 c1 c1'
    go_enter Tryd.func17, Tryd.ntmps17
    go_wp2
    go_ret
    exact ⟨rfl, HF.out⟩
  | some P =>
    have e2 : ptr M p i = some ⟨(p.pl i).b, 0, none⟩ := by unfold ptr; rw [hP]; rfl
    rw [e2] at c
    have q1 := may_any w m M.C cc q c1
    have A := H.part i hi P hP
    have oP := (ok.part i hi P hP).1
    have eC : resize M i cc q = if may M.C cc q = false then (2, M) else if q < sum P.E then (3, M) else if Dem.fits (nxt P q.toNat) (room M cc) = false then (8, M) else if free M < cc - P.k then (9, M)
        else (0, { M with T := upd M.T i (some { P with k := cc.toNat, q := q.toNat, t := nxt P q.toNat }) }) := by
      unfold resize; rw [hP]
    rw [eC]
    by_cases hm : may M.C cc q = false
    · rw [if_pos hm]
      rw [hm] at q1
      have HF := Hid.of (MR.refl H (Keeps.refl _ _))
      clear eC e2 hP H ok hi c0 c1 c1' hm A oP
      go_enter Tryd.func17, Tryd.ntmps17
      go_wp2_with fail
      refine q1.mono ?_
      rintro e w1 ⟨rfl, rfl⟩
      clear q1
      go_wp2
      go_ret
      exact ⟨rfl, HF.out⟩
    · rw [if_neg hm]
      have hm' : may M.C cc q = true := by simpa using hm
      obtain ⟨hq, hc1, hc2⟩ := may_iff.1 hm'
      have okC := ok.c
      obtain ⟨cn, rfl⟩ : ∃ cn : Nat, cc = cn := ⟨cc.toNat, by omega⟩
      obtain ⟨qn, rfl⟩ : ∃ qn : Nat, q = qn := ⟨q.toNat, by omega⟩
      simp only [Int.toNat_natCast]
      rw [hm'] at q1
      have q2 := charged_any w (p.pl i) (p.gg i) P A (by have := oP.sum; have := oP.q; omega)
      by_cases hs : (qn : Int) < sum P.E
      · rw [if_pos hs]
        generalize sum P.E = S at *
        have ts : decide (qn < S) = true := by simp; omega
        have HH := Hid.of H
        clear eC e2 hP H ok hi c0 c1 c1' hm hm' A oP hs okC
        go_enter Tryd.func17, Tryd.ntmps17
        go_wp2_with fail
        refine q1.mono ?_
        rintro e w1 ⟨rfl, rfl⟩
        clear q1
        go_wp2_with fail
        refine q2.mono ?_
        rintro e w2 ⟨rfl, k2⟩
        have HF := Hid.of (MR.refl HH.out k2)
        clear q2 k2
        go_wp2
        go_ret
        exact ⟨rfl, HF.out⟩
      · rw [if_neg hs]
        have q3 := fun w' (k : Keeps (fun _ => False) w w') => nextP_any w' (p.pl i) (p.gg i) P qn (A.old k) oP
        have q4 := fun w' (k : Keeps (fun _ => False) w w') => room_any w' m M.Pg M.C cn (c0 w' k) (c1' w' k) ok.p.2 ok.c.1 (by omega)
        have er : ((cn * (M.Pg / M.C) : Nat) : Int) = room M cn := by unfold room; rw [Int.toNat_natCast]
        rw [er] at q4
        have q5 := fun w => Dem.fits_any w (nxt P qn) (room M cn)
        obtain ⟨t', ht'⟩ : ∃ t', nxt P qn = t' := ⟨_, rfl⟩
        rw [ht'] at q3 q5 ⊢
        generalize room M cn = rm at *
        generalize sum P.E = S at *
        have ts : decide (qn < S) = false := by simp; omega
        have HH := Hid.of (And.intro H (And.intro ok hi))
        have HQ := Hid.of (And.intro q3 q4)
        by_cases hf : Dem.fits t' rm = false
        · rw [if_pos hf]
          rw [hf] at q5
          clear eC e2 hP H ok hi c0 c1 c1' hm hm' A oP hs okC q3 q4 er hf ht'
          go_enter Tryd.func17, Tryd.ntmps17
          go_wp2_with fail
          refine q1.mono ?_
          rintro e w1 ⟨rfl, rfl⟩
          clear q1
          go_wp2_with fail
          refine q2.mono ?_
          rintro e w2 ⟨rfl, k2⟩
          have q3 := HQ.out.1 w2 k2
          have q4 := HQ.out.2 w2 k2
          have HK2 := Hid.of k2
          clear q2 k2 HQ
          go_wp2_with fail
          refine q3.mono ?_
          rintro e w3 ⟨rfl, rfl⟩
          clear q3
          go_wp2_with fail
          refine q4.mono ?_
          rintro e w4 ⟨rfl, k4⟩
          have q5' := q5 w4
          have HF := Hid.of (MR.refl HH.out.1 (HK2.out.trans k4))
          clear q4 k4 q5
          go_wp2_with fail
          refine q5'.mono ?_
          rintro e w5 ⟨rfl, rfl⟩
          clear q5'
          go_wp2
          go_ret
          exact ⟨rfl, HF.out⟩
        · rw [if_neg hf]
          have hf' : Dem.fits t' rm = true := by simpa using hf
          rw [hf'] at q5
          have q6 := fun w' (k : Keeps (fun _ => False) w w') => free_any w'.drew m M p ((H.old k).old ((Keeps.refl _ _).drew)) ok
          have cP := fun w' (k : Keeps (fun _ => False) w w') => cell_of (v := .int .i64 P.k) (A.old k).cells 1 rfl
          obtain ⟨fr, hfr⟩ : ∃ fr, free M = fr := ⟨_, rfl⟩
          have hk := oP.k
          have wsub : wrap64 ((cn : Int) - P.k) = (cn : Int) - P.k := by unfold wrap64; omega
          have wsub' : IntKind.i64.wrap ((cn : Int) - P.k) = (cn : Int) - P.k := IntWalk.i64_in _ (by omega)
          rw [hfr] at q6 ⊢
          have HQ6 := Hid.of (And.intro q6 cP)
          obtain ⟨R, hR⟩ : ∃ R, (if fr < (cn : Int) - P.k then ((9 : Int), M) else (0, { M with T := upd M.T i (some { P with k := cn, q := qn, t := t' }) })) = R := ⟨_, rfl⟩
          rw [hR]
          have HR := Hid.of hR
          have HP := Hid.of hP
          obtain ⟨t1, ht1⟩ : ∃ t1 : Bool, decide (fr < (cn : Int) - P.k) = t1 := ⟨_, rfl⟩
          have HT1 := Hid.of ht1
          have HA := Hid.of A
          clear eC e2 hP H ok hi c0 c1 c1' hm hm' A oP hs okC q3 q4 q6 cP er hf ht' hfr hk hR
          go_enter Tryd.func17, Tryd.ntmps17
          go_wp2_with fail
          refine q1.mono ?_
          rintro e w1 ⟨rfl, rfl⟩
          clear q1
          go_wp2_with fail
          refine q2.mono ?_
          rintro e w2 ⟨rfl, k2⟩
          have q3 := HQ.out.1 w2 k2
          have q4 := HQ.out.2 w2 k2
          have HK2 := Hid.of k2
          clear q2 k2
          go_wp2_with fail
          refine q3.mono ?_
          rintro e w3 ⟨rfl, rfl⟩
          clear q3
          go_wp2_with fail
          refine q4.mono ?_
          rintro e w4 ⟨rfl, k4⟩
          have q5' := q5 w4
          have K4 := HK2.out.trans k4
          have q6 := HQ6.out.1 w4 K4
          have cP := HQ6.out.2 w4 K4
          have HK4 := Hid.of K4
          clear q4 k4 q5 K4
          go_wp2_with fail
          refine q5'.mono ?_
          rintro e w5 ⟨rfl, rfl⟩
          clear q5'
          go_wp2
          go_region_held3 (fun wx => wx.cell? ⟨(p.pl i).b, 1, none⟩ = some (.int .i64 P.k))
            (first | exact cP)
            (first
              | (go_at_call 14; refine q6.mono ?_; clear q6; rintro e w6 ⟨rfl, rfl⟩))
          cases t1
          · have hRe := HR.out
            rw [if_neg (by simpa using HT1.out)] at hRe
            have K6 : Keeps (fun _ => False) w w4.drew := HK4.out.drew
            have A6 := HA.out.old K6
            have q7 := HQ.out.1 w4.drew K6
            have A7 := A6.sets cn qn t'
            obtain ⟨w7, hw7⟩ : ∃ w7, w4.drew.setCell ⟨(p.pl i).b, 3, none⟩ (.int .i64 t') = w7 := ⟨_, rfl⟩
            rw [hw7] at A7
            have d3 := cell_of (v := .int .i64 P.t) A6.cells 3 rfl
            have g3 := free_of A6.cells 3
            have b7 := set_of A6.cells 3 (.int .i64 t')
            rw [hw7] at b7
            have d1 := cell_of (v := .int .i64 P.k) b7 1 rfl
            have g1 := free_of b7 1
            have d2 := cell_of (v := .int .i64 P.q) b7 2 rfl
            have g2 := free_of b7 2
            have HF : Hid (MR w m M p R.2 ((w7.setCell ⟨(p.pl i).b, 1, none⟩ (.int .i64 cn)).setCell ⟨(p.pl i).b, 2, none⟩ (.int .i64 qn))) := Hid.of (by
              rw [← hRe]
              exact MR.after K6 (MAt.step (HH.out.1.old K6) HH.out.2.2 HP.out A7))
            have HR1 : Hid (R.1 = 0) := Hid.of (by rw [← hRe])
            obtain ⟨w8, hw8⟩ : ∃ w8, (w7.setCell ⟨(p.pl i).b, 1, none⟩ (.int .i64 cn)).setCell ⟨(p.pl i).b, 2, none⟩ (.int .i64 qn) = w8 := ⟨_, rfl⟩
            rw [hw8] at HF
            clear hRe K6 A6 A7 b7 HR HH HQ HQ6 HA HP cP HK4 HK2
            go_wp2_with fail
            refine q7.mono ?_
            rintro e w9 ⟨rfl, rfl⟩
            clear q7
            go_wp2
            go_ret
            refine ⟨?_, HF.out⟩
            rw [HR1.out]
            rfl
          · have hRe := HR.out
            rw [if_pos (by simpa using HT1.out)] at hRe
            have HF : Hid (MR w m M p R.2 w4.drew) := Hid.of (by rw [← hRe]; exact MR.refl HH.out.1 HK4.out.drew)
            have HR1 : Hid (R.1 = 9) := Hid.of (by rw [← hRe])
            clear hRe HR HH HQ HQ6 HA HP cP HK4 HK2
            go_wp2
            go_ret
            refine ⟨?_, HF.out⟩
            rw [HR1.out]
            rfl
end Mo
end Go.Proofs.YtagmkkddjdlncaaDoor

/-! The model's steps beside a block of the call's own; a part's do, joined; Object. -/
namespace Go.Proofs.YtagmkkddjdlncaaDoor
open Go.RowKit Go.ChangeMaps
namespace Mo
/-- A model's steps beside a block B of the call's own (w0: the world ahead of it). -/
def MB (w0 : World) (B m : Nat) (M : MM) (p : Pls) (p' : Pls) (M' : MM) (w' : World) : Prop := MAt w' m M' p' ∧ Keeps (MFp m M p) w0 w' ∧ (∀ i, MFp m M' p' i → MFp m M p i ∨ (w0.heap.size ≤ i ∧ i ≠ B)) ∧ w0.heap.size ≤ B ∧ ¬ MFp m M p B ∧ B < w'.heap.size
theorem MB.start {w0 w : World} {B m : Nat} {M : MM} {p : Pls} (H : MAt w0 m M p) (k : Keeps (fun _ => False) w0 w) (h1 : w0.heap.size ≤ B) (h2 : B < w.heap.size) : MB w0 B m M p p M w :=
  ⟨H.old k, k.mono (fun _ _ x => x.elim), fun _ h => .inl h, h1, fun h => by have := H.lt h; omega, h2⟩
theorem MB.nf {w0 w : World} {B m : Nat} {M M1 : MM} {p p1 : Pls} (h : MB w0 B m M p p1 M1 w) : ¬ MFp m M1 p1 B := by
  obtain ⟨A, K, F, h1, h2, h3⟩ := h
  intro hx
  rcases F _ hx with h | ⟨_, h⟩
  · exact h2 h
  · exact h rfl
theorem MB.step {w0 w w2 : World} {B m : Nat} {M M1 M2 : MM} {p p1 : Pls} (h : MB w0 B m M p p1 M1 w) (r : MR w m M1 p1 M2 w2) : ∃ p2, MB w0 B m M p p2 M2 w2 ∧ Keeps (MFp m M1 p1) w w2 := by
  obtain ⟨A, K, F, h1, h2, h3⟩ := h
  obtain ⟨p2, A2, K2, F2⟩ := r
  refine ⟨p2, ⟨A2, K.trans' K2 (fun x hx hl => ?_), fun i hi => ?_, h1, h2, Nat.lt_of_lt_of_le h3 K2.size⟩, K2⟩
  · rcases F x hx with h | ⟨h, _⟩
    · exact h
    · omega
  · rcases F2 i hi with h | h
    · exact F i h
    · exact .inr ⟨Nat.le_trans K.size h, by omega⟩
theorem MB.old {w0 w w2 : World} {B m : Nat} {M M1 : MM} {p p1 : Pls} (h : MB w0 B m M p p1 M1 w) (k : Keeps (fun _ => False) w w2) : MB w0 B m M p p1 M1 w2 := by
  obtain ⟨A, K, F, h1, h2, h3⟩ := h
  exact ⟨A.old k, K.trans (k.mono (fun _ _ x => x.elim)), F, h1, h2, Nat.lt_of_lt_of_le h3 k.size⟩
theorem MB.set {w0 w w2 : World} {B m : Nat} {M M1 : MM} {p p1 : Pls} (h : MB w0 B m M p p1 M1 w) (k : Keeps (fun x => x = B) w w2) : MB w0 B m M p p1 M1 w2 := by
  have hn := h.nf
  obtain ⟨A, K, F, h1, h2, h3⟩ := h
  refine ⟨A.keep k (fun x hx e => hn (e ▸ hx)), K.trans' k (fun x hx hl => ?_), F, h1, h2, Nat.lt_of_lt_of_le h3 k.size⟩
  subst hx
  omega
theorem MB.mr {w0 w : World} {B m : Nat} {M M1 : MM} {p p1 : Pls} (h : MB w0 B m M p p1 M1 w) : MR w0 m M p M1 w := by
  obtain ⟨A, K, F, h1, h2, h3⟩ := h
  refine ⟨p1, A, K, fun i hi => ?_⟩
  rcases F i hi with h | ⟨h, _⟩
  · exact .inl h
  · exact .inr h
theorem MB.tab {w0 w : World} {B m : Nat} {M M1 : MM} {p p1 : Pls} (h : MB w0 B m M p p1 M1 w) (H : MAt w0 m M p) (hT : Sh.Tab w0) : Sh.Tab w := H.tab hT h.2.1
/-- A part's do, at any kind of its own. -/
theorem pdo_any (w : World) (p : Plc) (g : Int → Rw) (P : PP) (kind t n m : Int) (h : Nat) (d : Bs) (H : PAt w p g P) (ok : Ok P) (hT : Sh.Tab w) (hh : h < 18446744073709551616) (hd : d.length ≤ 8192)
    (hn : -9223372036854775808 ≤ n ∧ n ≤ 9223372036854775807) (hm : -9223372036854775808 ≤ m ∧ m ≤ 9223372036854775807) (hc : Op1.chk ⟨kind, t, n, m, h, bs d⟩ = 0) (hk : 4 ≤ kind) :
    Calls Tryd.prog 19 #[.pointer (some ⟨p.b, 0, none⟩), .agg #[.int .i64 kind, .int .i64 t, .int .i64 n, .int .i64 m, .int .u64 h, .string (bs d)]] w (DoR w p g P (pdo P kind n m h d).1 (pdo P kind n m h d).2) := by
  have hk2 := (chk_ok hc).1.2
  simp only at hk2
  have : kind = 4 ∨ kind = 5 ∨ kind = 6 ∨ kind = 7 ∨ kind = 8 ∨ kind = 9 ∨ kind = 10 ∨ kind = 11 := by omega
  rcases this with rfl | rfl | rfl | rfl | rfl | rfl | rfl | rfl
  · exact do_4 w p g P t n m h d H ok hT hh hd hn hm
  · exact do_5 w p g P t n m h d H ok hT hh hd hn hm hc
  · exact do_6 w p g P t n m h d H ok hT hh hd hn hm
  · exact do_7 w p g P t n m h d H ok hT hh hd hn hm
  · exact do_8 w p g P t n m h d H ok hT hh hd hn hm
  · exact do_9 w p g P t n m h d H ok hT hh hd hn hm
  · exact do_10 w p g P t n m h d H ok hT hh hd hn hm
  · exact do_11 w p g P t n m h d H ok hT hh hd hn hm
/-- An object's bytes, and whether there is one. -/
def object (M : MM) (i : Int) (h : Nat) : Bs × Bool :=
  match (if 0 ≤ i ∧ i < 8 then M.T i.toNat else none) with
  | none => ([], false)
  | some P => if (Ca.Fnd P.C h 0).2 = 0 then ((obj P (Ca.Fnd P.C h 0).1).bs, true) else ([], false)
set_option maxRecDepth 100000 in
set_option maxHeartbeats 2000000 in
theorem object_any (w : World) (m : Nat) (M : MM) (p : Pls) (i : Int) (h : Nat) (H : MAt w m M p) (ok : MOk M) (hh : h < 18446744073709551616) :
    Calls Tryd.prog 11 #[.pointer (some ⟨m, 0, none⟩), .int .i64 i, .int .u64 h] w fun e w' => e = .returned (.tuple #[.string (bs (object M i h).1), .bool (object M i h).2]) ∧ Keeps (fun _ => False) w w' := by
  have q := at_any w m M.Pg M.C (ptr M p) (fun i => (M.s i : Int)) i H.cells
  unfold object
  by_cases hi : 0 ≤ i ∧ i < 8
  · rw [if_pos hi]
    have e1 : prt (ptr M p) i = ptr M p i.toNat := by unfold prt; rw [if_pos hi]
    rw [e1] at q
    obtain ⟨j, hj⟩ : ∃ j, i.toNat = j := ⟨_, rfl⟩
    have hj8 : j < 8 := by omega
    rw [hj] at q ⊢
    cases hP : M.T j with
    | none =>
      have e2 : ptr M p j = none := by unfold ptr; rw [hP]; rfl
      rw [e2] at q
      dsimp only
      clear e1 e2 hP H ok hi hj
      go_enter Tryd.func11, Tryd.ntmps11
      go_wp2_with fail
      refine q.mono ?_
      rintro e w1 ⟨rfl, rfl⟩
      clear q
      go_wp2
      go_ret2
      exact ⟨rfl, Keeps.refl _ _⟩
    | some P =>
      have e2 : ptr M p j = some ⟨(p.pl j).b, 0, none⟩ := by unfold ptr; rw [hP]; rfl
      rw [e2] at q
      dsimp only
      have A := H.part j hj8 P hP
      have oP := (ok.part j hj8 P hP).1
      have q2 := Ca.Find_any w (p.pl j).c P.C h 0 A.caps hh
      have y0 := cell_of (v := .pointer (some ⟨(p.pl j).c.c, 0, none⟩)) A.cells 0 rfl
      by_cases hE : (Ca.Fnd P.C h 0).2 = 0
      · rw [if_pos hE]
        obtain ⟨o, ho⟩ := oP.fnd hE
        have hob : obj P (Ca.Fnd P.C h 0).1 = o := by unfold obj; rw [ho]; rfl
        rw [hob]
        rw [hE] at q2
        generalize (Ca.Fnd P.C h 0).1 = k at *
        have HA := Hid.of (And.intro A ho)
        obtain ⟨ob, oc⟩ := o
        dsimp only
        have hfl := fld_bytes
        clear e1 e2 hP H ok hi hj A oP hE ho hob
        go_enter Tryd.func11, Tryd.ntmps11
        go_wp2_with fail
        refine q.mono ?_
        rintro e w1 ⟨rfl, rfl⟩
        clear q
        go_wp2_with fail
        refine q2.mono ?_
        rintro e w2 ⟨rfl, k2⟩
        clear q2
        have A2 := HA.out.1.old k2
        have lk := A2.look HA.out.2
        have c4 := cell_of (v := .map (some (p.pl j).ob)) A2.cells 4 rfl
        have row : BAt w2 (p.gg j k).b ob (p.gg j k).t := A2.rows _ (eget_memE HA.out.2)
        have cv := string_of_bytes w2 (some ⟨(p.gg j k).b, 0, none⟩) ob.length (ob.length + (p.gg j k).t.length) ob rfl row.rd0 (by simp)
        have HK := Hid.of k2
        clear k2 A2 row HA
        go_wp2
        go_ret2
        exact ⟨rfl, HK.out⟩
      · rw [if_neg hE]
        generalize (Ca.Fnd P.C h 0).1 = k at *
        generalize (Ca.Fnd P.C h 0).2 = E at *
        have t0 : (E != 0) = true := by simpa using hE
        clear e1 e2 hP H ok hi hj A oP hE
        go_enter Tryd.func11, Tryd.ntmps11
        go_wp2_with fail
        refine q.mono ?_
        rintro e w1 ⟨rfl, rfl⟩
        clear q
        go_wp2_with fail
        refine q2.mono ?_
        rintro e w2 ⟨rfl, k2⟩
        clear q2
        have HK := Hid.of k2
        clear k2
        go_wp2
        go_ret2
        exact ⟨rfl, HK.out⟩
  · rw [if_neg hi]
    have e1 : prt (ptr M p) i = none := by unfold prt; rw [if_neg hi]
    rw [e1] at q
    dsimp only
    clear e1 H ok hi
    go_enter Tryd.func11, Tryd.ntmps11
    go_wp2_with fail
    refine q.mono ?_
    rintro e w1 ⟨rfl, rfl⟩
    clear q
    go_wp2
    go_ret2
    exact ⟨rfl, Keeps.refl _ _⟩
end Mo
end Go.Proofs.YtagmkkddjdlncaaDoor

/-! The model package's walk: Do (printed by gen_mdo.py). -/
namespace Go.Proofs.YtagmkkddjdlncaaDoor
open Go.RowKit Go.ChangeMaps
namespace Mo
def MDoR (w : World) (m : Nat) (M : MM) (p : Pls) (a : XAns) (M' : MM) (e : Ending) (w' : World) : Prop := e = .returned (.agg a.enc.toArray) ∧ MR w m M p M' w'
theorem sizeOf_cells {w : World} {B : Nat} {o : Obj} (h : w.heap[B]? = some o) : B < w.heap.size := lt_of h
set_option maxRecDepth 100000 in
set_option maxHeartbeats 4000000 in
theorem mdo_any' (w : World) (mm : Nat) (M : MM) (p : Pls) (kind t n m : Int) (h : Nat) (d : Bs) (H : MAt w mm M p) (ok : MOk M) (hT : Sh.Tab w) (hh : h < 18446744073709551616) (hd : d.length ≤ 1000000000)
    (hn : -9223372036854775808 ≤ n ∧ n ≤ 9223372036854775807) (hm : -9223372036854775808 ≤ m ∧ m ≤ 9223372036854775807) :
    Calls Tryd.prog 9 #[.pointer (some ⟨mm, 0, none⟩), .agg #[.int .i64 kind, .int .i64 t, .int .i64 n, .int .i64 m, .int .u64 h, .string (bs d)]] w (MDoR w mm M p (mdo M ⟨kind, t, n, m, h, bs d⟩).1 (mdo M ⟨kind, t, n, m, h, bs d⟩).2) := by
  obtain ⟨A, hA⟩ : ∃ A, w.heap.size = A := ⟨_, rfl⟩
  obtain ⟨w1, hw1⟩ : ∃ w1, w.alloc (.cells #[.int .i64 kind, .int .i64 t, .int .i64 n, .int .i64 m, .int .u64 h, .string (bs d)] 34) = w1 := ⟨_, rfl⟩
  obtain ⟨B, hB⟩ : ∃ B, w1.heap.size = B := ⟨_, rfl⟩
  obtain ⟨w2, hw2⟩ : ∃ w2, w1.alloc (.cells #[.int .i64 0, .int .u64 0, .int .i64 0, .int .i64 0, .string ⟨#[]⟩, .int .i64 0] 36) = w2 := ⟨_, rfl⟩
  have k1 : Keeps (fun _ => False) w w1 := by rw [← hw1]; exact (Keeps.refl _ _).alloc _
  have k2' : Keeps (fun _ => False) w1 w2 := by rw [← hw2]; exact (Keeps.refl _ _).alloc _
  have k2 := k1.trans k2'
  have a1 : w1.heap[A]? = some (.cells #[.int .i64 kind, .int .i64 t, .int .i64 n, .int .i64 m, .int .u64 h, .string (bs d)] 34 (0, 0)) := by rw [← hw1, ← hA]; exact alloc_new _ _
  have a2 := k2'.at a1 (fun x => x)
  have b2 : w2.heap[B]? = some (.cells (acells ⟨0, 0, 0, 0, bs [], 0⟩) 36 (0, 0)) := by rw [← hw2, ← hB]; exact alloc_new _ _
  have hBw : w.heap.size ≤ B := by have := k1.size; omega
  have hAB : A < B := by have := lt_of a1; omega
  have nfA : ¬ MFp mm M p A := fun hx => by have := H.lt hx; omega
  obtain ⟨x0, x1, x2, x3, x4, x5⟩ := (six_cells a2).1
  have P2 := MB.start H k2 hBw (lt_of b2)
  have qck := Op1.check_any w2 ⟨kind, t, n, m, h, bs d⟩ (by rw [bs_size]; unfold maxLen; omega)
  unfold XOp.enc at qck
  dsimp only at qck
  have HA := Hid.of (And.intro a2 (And.intro nfA hAB))
  have HP2 := Hid.of (And.intro b2 P2)
  have HH := Hid.of (And.intro H (And.intro hT ok))
  clear k1 k2' k2 a1 a2 b2 hBw hAB nfA P2 H hT ok
  by_cases hc : Op1.chk ⟨kind, t, n, m, h, bs d⟩ = 0
  · obtain ⟨hk, ht, hds⟩ := chk_ok hc
    simp only at hk ht hds
    rw [bs_size] at hds
    obtain ⟨i, rfl⟩ : ∃ i : Nat, t = i := ⟨t.toNat, by omega⟩
    have hi : i < 8 := by omega
    have hii : (i : Int) < 8 := by omega
    have hdi : decide (8 ≤ i) = false := by simp; omega
    have e : mdo M ⟨kind, i, n, m, h, bs d⟩ = ({ (act M i kind n m h d).1 with charged := charged (act M i kind n m h d).2 i }, (act M i kind n m h d).2) := by
      unfold mdo
      rw [if_neg (by simpa using hc)]
      simp only [Int.toNat_natCast]
      rfl
    rw [e]
    have okA := HH.out.2.2.act hi kind n m h d
    rw [hc] at qck
    have HC := Hid.of hc
    have c2 : ∀ wx, Keeps (fun _ => False) w wx → wx.cell? ⟨mm, 2 + i, none⟩ = some (.pointer (ptr M p i)) := fun wx k => cell_of (HH.out.1.old k).cells (2 + i) (md_part M.Pg M.C _ _ hi)
    have KS := Hid.of (And.intro hi (And.intro okA (And.intro hds hk)))
    clear e hc ht okA hds
    have hcase : kind = 1 ∨ kind = 2 ∨ kind = 3 ∨ (4 ≤ kind ∧ M.T i = none) ∨ (4 ≤ kind ∧ ∃ P, M.T i = some P) := by
      cases hP : M.T i with
      | none => simp; omega
      | some P => simp; omega
    clear hi hk
    have HK0 : Hid (∀ w3, Keeps (fun _ => False) w2 w3 → ∃ w4, w3.setCell ⟨B, 0, none⟩ (.int .i64 0) = w4 ∧ w4.heap[B]? = some (.cells (acells ⟨0, 0, 0, 0, bs [], 0⟩) 36 (0, 0)) ∧ MB w B mm M p p M w4 ∧ w4.heap[A]? = some (.cells #[.int .i64 kind, .int .i64 i, .int .i64 n, .int .i64 m, .int .u64 h, .string (bs d)] 34 (0, 0)) ∧ Sh.Tab w4 ∧
        (w3.cell? ⟨B, 0, none⟩ = some (.int .i64 0) ∧ w3.frozen? ⟨B, 0, none⟩ = false) ∧ w4.cell? ⟨mm, 2 + i, none⟩ = some (.pointer (ptr M p i))) := Hid.of (by
      intro w3 k3
      have b3 := k3.at HP2.out.1 (fun x => x)
      have P3 := HP2.out.2.old k3
      refine ⟨_, rfl, set_of b3 0 _, P3.set (kset _ B 0 _), (kset w3 B 0 _).at (k3.at HA.out.1 (fun x => x)) (by have := HA.out.2.2; omega), (P3.set (kset _ B 0 _)).tab HH.out.1 HH.out.2.1, ⟨cell_of b3 0 rfl, free_of b3 0⟩, ?_⟩
      exact cell_of (P3.set (kset _ B 0 (.int .i64 0))).1.cells (2 + i) (md_part M.Pg M.C _ _ KS.out.1))
    rcases hcase with rfl | rfl | rfl | ⟨hk4, hP⟩ | ⟨hk4, P, hP⟩
    · have eA : act M i 1 n m h d = (⟨(create M i m n).1, 0, 0, 0, bs [], 0⟩, (create M i m n).2) := by unfold act; rw [if_pos rfl]
      rw [eA]
      have okA := KS.out.2.1
      rw [eA] at okA
      dsimp only at okA ⊢
      have hq := fun wx (HX : MAt wx mm M p) (TX : Sh.Tab wx) => create_any wx mm M p i KS.out.1 m n HX HH.out.2.2 TX
      generalize (create M i m n).2 = M' at hq okA ⊢
      generalize (create M i m n).1 = E at hq ⊢
      have HQ := Hid.of hq
      obtain ⟨ch0, hch0⟩ : ∃ ch0, charged M' i = ch0 := ⟨_, rfl⟩
      have HOK := Hid.of okA
      clear eA hq okA hch0
      go_enter Tryd.func9, Tryd.ntmps9
      go_wp2_with fail
      refine qck.mono ?_
      rintro e w3 ⟨rfl, k3⟩
      obtain ⟨w4, hw4, b4, P4, a4, T4, ⟨s0, s1⟩, cm⟩ := HK0.out w3 k3
      obtain ⟨⟨x0', x1', x2', x3', x4', x5'⟩, -⟩ := six_cells a4
      obtain ⟨⟨d0, d1, d2, d3, d4, d5⟩, g0, g1, g2, g3, g4, g5⟩ := six_cells b4
      have HP4 := Hid.of (And.intro b4 (And.intro P4 (And.intro a4 T4)))
      clear qck k3 b4 P4 a4 T4 HK0 c2
      go_wp2
      go_region
      clear s0 s1 cm
      have P4 := HP4.out.2.1.old ((Keeps.refl _ _).drew)
      have q := HQ.out w4.drew P4.1 (HP4.out.2.2.2.old ((Keeps.refl _ _).drew))
      clear P4
      go_wp2_with fail
      refine q.mono ?_
      rintro e w5 ⟨rfl, r5⟩
      clear q
      obtain ⟨p5, P5, K5⟩ := (HP4.out.2.1.old ((Keeps.refl _ _).drew)).step r5
      have nfB := HP4.out.2.1.nf
      have b5 := K5.at (show w4.drew.heap[B]? = _ from HP4.out.1) nfB
      have a5 := K5.at (show w4.drew.heap[A]? = _ from HP4.out.2.2.1) HA.out.2.1
      clear r5 K5
      obtain ⟨w6, hw6⟩ : ∃ w6, w5.setCell ⟨B, 0, none⟩ (.int .i64 E) = w6 := ⟨_, rfl⟩
      have b6 : w6.heap[B]? = some (.cells (acells ⟨E, 0, 0, 0, bs [], 0⟩) 36 (0, 0)) := by rw [← hw6]; exact set_of b5 0 _
      have k6 : Keeps (fun x => x = B) w5 w6 := by rw [← hw6]; exact kset _ B 0 _
      have P6 := P5.set k6
      have a6 := k6.at a5 (by have := HA.out.2.2; omega)
      obtain ⟨⟨d0', -, -, -, -, -⟩, g0', -, -, -, -, -⟩ := six_cells b5
      obtain ⟨⟨x0'', x1'', x2'', x3'', x4'', x5''⟩, -⟩ := six_cells a6
      have qch := chargedM_any w6 mm M' p5 i KS.out.1 P6.1 HOK.out
      have HP6 := Hid.of (And.intro b6 P6)
      clear b5 a5 P5 b6 k6 P6 a6
      go_wp2_with fail
      refine qch.mono ?_
      rintro e w7 ⟨rfl, k7⟩
      clear qch
      have b7 := k7.at HP6.out.1 (fun x => x)
      have P7 := HP6.out.2.old k7
      obtain ⟨⟨-, -, -, -, -, h5⟩, -, -, -, -, -, j5⟩ := six_cells b7
      generalize hch : charged M' i = ch at *
      obtain ⟨w8, hw8⟩ : ∃ w8, w7.setCell ⟨B, 5, none⟩ (.int .i64 ch) = w8 := ⟨_, rfl⟩
      have b8 : w8.heap[B]? = some (.cells (acells ⟨E, 0, 0, 0, (bs []), ch⟩) 36 (0, 0)) := by rw [← hw8]; exact set_of b7 5 _
      have k8 : Keeps (fun x => x = B) w7 w8 := by rw [← hw8]; exact kset _ B 5 _
      have P8 := P7.set k8
      have bb := b8
      obtain ⟨⟨c0, c1, c2, c3, c4, c5⟩, f0, f1, f2, f3, f4, f5⟩ := six_cells bb
      obtain ⟨wf, hwf⟩ : ∃ wf, (((((w8.setCell ⟨B, 0, none⟩ (.int .i64 E)).setCell ⟨B, 1, none⟩ (.int .u64 0)).setCell ⟨B, 2, none⟩ (.int .i64 0) ).setCell ⟨B, 3, none⟩ (.int .i64 0)).setCell ⟨B, 4, none⟩ (.string (bs []))).setCell ⟨B, 5, none⟩ (.int .i64 ch) = wf := ⟨_, rfl⟩
      have bf := set6 bb (.int .i64 E) (.int .u64 0) (.int .i64 0) (.int .i64 0) (.string (bs [])) (.int .i64 ch)
      rw [hwf] at bf
      have kf : Keeps (fun x => x = B) w8 wf := by rw [← hwf]; exact (((((kset _ B 0 _).trans (kset _ B 1 _)).trans (kset _ B 2 _)).trans (kset _ B 3 _)).trans (kset _ B 4 _)).trans (kset _ B 5 _)
      have HF := Hid.of ((P8.set kf).mr)
      obtain ⟨⟨e0, e1, e2, e3, e4, e5⟩, -⟩ := six_cells bf
      clear b7 k7 P7 b8 k8 P8 bb bf kf HP6 HP4 HP2 HA HH HC KS
      go_wp2
      refine bodyPost_ret (v := .agg #[.int .i64 E, .int .u64 0, .int .i64 0, .int .i64 0, .string (bs []), .int .i64 ch]) ?_ ?_ ?_
      · simp [results, Tryd.results9, go_sem, e0, e1, e2, e3, e4, e5]
      · rfl
      · exact ⟨rfl, HF.out⟩
    · have eA : act M i 2 n m h d = (⟨(resize M i m n).1, 0, 0, 0, bs [], 0⟩, (resize M i m n).2) := by unfold act; rw [if_neg (by decide), if_pos rfl]
      rw [eA]
      have okA := KS.out.2.1
      rw [eA] at okA
      dsimp only at okA ⊢
      have hq := fun wx (HX : MAt wx mm M p) (TX : Sh.Tab wx) => resize_any wx mm M p i KS.out.1 m n hm HX HH.out.2.2
      generalize (resize M i m n).2 = M' at hq okA ⊢
      generalize (resize M i m n).1 = E at hq ⊢
      have HQ := Hid.of hq
      obtain ⟨ch0, hch0⟩ : ∃ ch0, charged M' i = ch0 := ⟨_, rfl⟩
      have HOK := Hid.of okA
      clear eA hq okA hch0
      go_enter Tryd.func9, Tryd.ntmps9
      go_wp2_with fail
      refine qck.mono ?_
      rintro e w3 ⟨rfl, k3⟩
      obtain ⟨w4, hw4, b4, P4, a4, T4, ⟨s0, s1⟩, cm⟩ := HK0.out w3 k3
      obtain ⟨⟨x0', x1', x2', x3', x4', x5'⟩, -⟩ := six_cells a4
      obtain ⟨⟨d0, d1, d2, d3, d4, d5⟩, g0, g1, g2, g3, g4, g5⟩ := six_cells b4
      have HP4 := Hid.of (And.intro b4 (And.intro P4 (And.intro a4 T4)))
      clear qck k3 b4 P4 a4 T4 HK0 c2
      go_wp2
      go_region
      clear s0 s1 cm
      have P4 := HP4.out.2.1.old ((Keeps.refl _ _).drew)
      have q := HQ.out w4.drew P4.1 (HP4.out.2.2.2.old ((Keeps.refl _ _).drew))
      clear P4
      go_wp2_with fail
      refine q.mono ?_
      rintro e w5 ⟨rfl, r5⟩
      clear q
      obtain ⟨p5, P5, K5⟩ := (HP4.out.2.1.old ((Keeps.refl _ _).drew)).step r5
      have nfB := HP4.out.2.1.nf
      have b5 := K5.at (show w4.drew.heap[B]? = _ from HP4.out.1) nfB
      have a5 := K5.at (show w4.drew.heap[A]? = _ from HP4.out.2.2.1) HA.out.2.1
      clear r5 K5
      obtain ⟨w6, hw6⟩ : ∃ w6, w5.setCell ⟨B, 0, none⟩ (.int .i64 E) = w6 := ⟨_, rfl⟩
      have b6 : w6.heap[B]? = some (.cells (acells ⟨E, 0, 0, 0, bs [], 0⟩) 36 (0, 0)) := by rw [← hw6]; exact set_of b5 0 _
      have k6 : Keeps (fun x => x = B) w5 w6 := by rw [← hw6]; exact kset _ B 0 _
      have P6 := P5.set k6
      have a6 := k6.at a5 (by have := HA.out.2.2; omega)
      obtain ⟨⟨d0', -, -, -, -, -⟩, g0', -, -, -, -, -⟩ := six_cells b5
      obtain ⟨⟨x0'', x1'', x2'', x3'', x4'', x5''⟩, -⟩ := six_cells a6
      have qch := chargedM_any w6 mm M' p5 i KS.out.1 P6.1 HOK.out
      have HP6 := Hid.of (And.intro b6 P6)
      clear b5 a5 P5 b6 k6 P6 a6
      go_wp2_with fail
      refine qch.mono ?_
      rintro e w7 ⟨rfl, k7⟩
      clear qch
      have b7 := k7.at HP6.out.1 (fun x => x)
      have P7 := HP6.out.2.old k7
      obtain ⟨⟨-, -, -, -, -, h5⟩, -, -, -, -, -, j5⟩ := six_cells b7
      generalize hch : charged M' i = ch at *
      obtain ⟨w8, hw8⟩ : ∃ w8, w7.setCell ⟨B, 5, none⟩ (.int .i64 ch) = w8 := ⟨_, rfl⟩
      have b8 : w8.heap[B]? = some (.cells (acells ⟨E, 0, 0, 0, (bs []), ch⟩) 36 (0, 0)) := by rw [← hw8]; exact set_of b7 5 _
      have k8 : Keeps (fun x => x = B) w7 w8 := by rw [← hw8]; exact kset _ B 5 _
      have P8 := P7.set k8
      have bb := b8
      obtain ⟨⟨c0, c1, c2, c3, c4, c5⟩, f0, f1, f2, f3, f4, f5⟩ := six_cells bb
      obtain ⟨wf, hwf⟩ : ∃ wf, (((((w8.setCell ⟨B, 0, none⟩ (.int .i64 E)).setCell ⟨B, 1, none⟩ (.int .u64 0)).setCell ⟨B, 2, none⟩ (.int .i64 0) ).setCell ⟨B, 3, none⟩ (.int .i64 0)).setCell ⟨B, 4, none⟩ (.string (bs []))).setCell ⟨B, 5, none⟩ (.int .i64 ch) = wf := ⟨_, rfl⟩
      have bf := set6 bb (.int .i64 E) (.int .u64 0) (.int .i64 0) (.int .i64 0) (.string (bs [])) (.int .i64 ch)
      rw [hwf] at bf
      have kf : Keeps (fun x => x = B) w8 wf := by rw [← hwf]; exact (((((kset _ B 0 _).trans (kset _ B 1 _)).trans (kset _ B 2 _)).trans (kset _ B 3 _)).trans (kset _ B 4 _)).trans (kset _ B 5 _)
      have HF := Hid.of ((P8.set kf).mr)
      obtain ⟨⟨e0, e1, e2, e3, e4, e5⟩, -⟩ := six_cells bf
      clear b7 k7 P7 b8 k8 P8 bb bf kf HP6 HP4 HP2 HA HH HC KS
      go_wp2
      refine bodyPost_ret (v := .agg #[.int .i64 E, .int .u64 0, .int .i64 0, .int .i64 0, .string (bs []), .int .i64 ch]) ?_ ?_ ?_
      · simp [results, Tryd.results9, go_sem, e0, e1, e2, e3, e4, e5]
      · rfl
      · exact ⟨rfl, HF.out⟩
    · have eA : act M i 3 n m h d = (⟨(destroy M i).1, 0, 0, 0, bs [], 0⟩, (destroy M i).2) := by unfold act; rw [if_neg (by decide), if_neg (by decide), if_pos rfl]
      rw [eA]
      have okA := KS.out.2.1
      rw [eA] at okA
      dsimp only at okA ⊢
      have hq := fun wx (HX : MAt wx mm M p) (TX : Sh.Tab wx) => destroy_any wx mm M p i KS.out.1 HX HH.out.2.2
      generalize (destroy M i).2 = M' at hq okA ⊢
      generalize (destroy M i).1 = E at hq ⊢
      have HQ := Hid.of hq
      obtain ⟨ch0, hch0⟩ : ∃ ch0, charged M' i = ch0 := ⟨_, rfl⟩
      have HOK := Hid.of okA
      clear eA hq okA hch0
      go_enter Tryd.func9, Tryd.ntmps9
      go_wp2_with fail
      refine qck.mono ?_
      rintro e w3 ⟨rfl, k3⟩
      obtain ⟨w4, hw4, b4, P4, a4, T4, ⟨s0, s1⟩, cm⟩ := HK0.out w3 k3
      obtain ⟨⟨x0', x1', x2', x3', x4', x5'⟩, -⟩ := six_cells a4
      obtain ⟨⟨d0, d1, d2, d3, d4, d5⟩, g0, g1, g2, g3, g4, g5⟩ := six_cells b4
      have HP4 := Hid.of (And.intro b4 (And.intro P4 (And.intro a4 T4)))
      clear qck k3 b4 P4 a4 T4 HK0 c2
      go_wp2
      go_region
      clear s0 s1 cm
      have P4 := HP4.out.2.1.old ((Keeps.refl _ _).drew)
      have q := HQ.out w4.drew P4.1 (HP4.out.2.2.2.old ((Keeps.refl _ _).drew))
      clear P4
      go_wp2_with fail
      refine q.mono ?_
      rintro e w5 ⟨rfl, r5⟩
      clear q
      obtain ⟨p5, P5, K5⟩ := (HP4.out.2.1.old ((Keeps.refl _ _).drew)).step r5
      have nfB := HP4.out.2.1.nf
      have b5 := K5.at (show w4.drew.heap[B]? = _ from HP4.out.1) nfB
      have a5 := K5.at (show w4.drew.heap[A]? = _ from HP4.out.2.2.1) HA.out.2.1
      clear r5 K5
      obtain ⟨w6, hw6⟩ : ∃ w6, w5.setCell ⟨B, 0, none⟩ (.int .i64 E) = w6 := ⟨_, rfl⟩
      have b6 : w6.heap[B]? = some (.cells (acells ⟨E, 0, 0, 0, bs [], 0⟩) 36 (0, 0)) := by rw [← hw6]; exact set_of b5 0 _
      have k6 : Keeps (fun x => x = B) w5 w6 := by rw [← hw6]; exact kset _ B 0 _
      have P6 := P5.set k6
      have a6 := k6.at a5 (by have := HA.out.2.2; omega)
      obtain ⟨⟨d0', -, -, -, -, -⟩, g0', -, -, -, -, -⟩ := six_cells b5
      obtain ⟨⟨x0'', x1'', x2'', x3'', x4'', x5''⟩, -⟩ := six_cells a6
      have qch := chargedM_any w6 mm M' p5 i KS.out.1 P6.1 HOK.out
      have HP6 := Hid.of (And.intro b6 P6)
      clear b5 a5 P5 b6 k6 P6 a6
      go_wp2_with fail
      refine qch.mono ?_
      rintro e w7 ⟨rfl, k7⟩
      clear qch
      have b7 := k7.at HP6.out.1 (fun x => x)
      have P7 := HP6.out.2.old k7
      obtain ⟨⟨-, -, -, -, -, h5⟩, -, -, -, -, -, j5⟩ := six_cells b7
      generalize hch : charged M' i = ch at *
      obtain ⟨w8, hw8⟩ : ∃ w8, w7.setCell ⟨B, 5, none⟩ (.int .i64 ch) = w8 := ⟨_, rfl⟩
      have b8 : w8.heap[B]? = some (.cells (acells ⟨E, 0, 0, 0, (bs []), ch⟩) 36 (0, 0)) := by rw [← hw8]; exact set_of b7 5 _
      have k8 : Keeps (fun x => x = B) w7 w8 := by rw [← hw8]; exact kset _ B 5 _
      have P8 := P7.set k8
      have bb := b8
      obtain ⟨⟨c0, c1, c2, c3, c4, c5⟩, f0, f1, f2, f3, f4, f5⟩ := six_cells bb
      obtain ⟨wf, hwf⟩ : ∃ wf, (((((w8.setCell ⟨B, 0, none⟩ (.int .i64 E)).setCell ⟨B, 1, none⟩ (.int .u64 0)).setCell ⟨B, 2, none⟩ (.int .i64 0) ).setCell ⟨B, 3, none⟩ (.int .i64 0)).setCell ⟨B, 4, none⟩ (.string (bs []))).setCell ⟨B, 5, none⟩ (.int .i64 ch) = wf := ⟨_, rfl⟩
      have bf := set6 bb (.int .i64 E) (.int .u64 0) (.int .i64 0) (.int .i64 0) (.string (bs [])) (.int .i64 ch)
      rw [hwf] at bf
      have kf : Keeps (fun x => x = B) w8 wf := by rw [← hwf]; exact (((((kset _ B 0 _).trans (kset _ B 1 _)).trans (kset _ B 2 _)).trans (kset _ B 3 _)).trans (kset _ B 4 _)).trans (kset _ B 5 _)
      have HF := Hid.of ((P8.set kf).mr)
      obtain ⟨⟨e0, e1, e2, e3, e4, e5⟩, -⟩ := six_cells bf
      clear b7 k7 P7 b8 k8 P8 bb bf kf HP6 HP4 HP2 HA HH HC KS
      go_wp2
      refine bodyPost_ret (v := .agg #[.int .i64 E, .int .u64 0, .int .i64 0, .int .i64 0, .string (bs []), .int .i64 ch]) ?_ ?_ ?_
      · simp [results, Tryd.results9, go_sem, e0, e1, e2, e3, e4, e5]
      · rfl
      · exact ⟨rfl, HF.out⟩
    · have eA : act M i kind n m h d = (⟨6, 0, 0, 0, bs [], 0⟩, M) := by unfold act; rw [if_neg (by omega), if_neg (by omega), if_neg (by omega), hP]
      rw [eA]
      dsimp only
      have t1 : (kind == 1) = false := by simp; omega
      have t2 : (kind == 2) = false := by simp; omega
      have t3 : (kind == 3) = false := by simp; omega
      have e2 : ptr M p i = none := by unfold ptr; rw [hP]; rfl
      rw [e2] at HK0
      clear eA hP hk4 e2
      go_enter Tryd.func9, Tryd.ntmps9
      go_wp2_with fail
      refine qck.mono ?_
      rintro e w3 ⟨rfl, k3⟩
      obtain ⟨w4, hw4, b4, P4, a4, T4, ⟨s0, s1⟩, cm⟩ := HK0.out w3 k3
      obtain ⟨⟨x0', x1', x2', x3', x4', x5'⟩, -⟩ := six_cells a4
      obtain ⟨⟨d0, d1, d2, d3, d4, d5⟩, g0, g1, g2, g3, g4, g5⟩ := six_cells b4
      have HP4 := Hid.of (And.intro b4 (And.intro P4 (And.intro a4 T4)))
      clear qck k3 b4 P4 a4 T4 HK0 c2
      go_wp2
      go_region
      clear s0 s1 cm
      have P4 := HP4.out.2.1.old ((Keeps.refl _ _).drew)
      clear P4
      have P5 := HP4.out.2.1.old ((Keeps.refl _ _).drew)
      have b5 : w4.drew.heap[B]? = _ := HP4.out.1
      have a5 : w4.drew.heap[A]? = _ := HP4.out.2.2.1
      obtain ⟨p5, hp5⟩ : ∃ p5, p5 = p := ⟨_, rfl⟩
      obtain ⟨w6, hw6⟩ : ∃ w6, w4.drew.setCell ⟨B, 0, none⟩ (.int .i64 6) = w6 := ⟨_, rfl⟩
      have b6 : w6.heap[B]? = some (.cells (acells ⟨6, 0, 0, 0, bs [], 0⟩) 36 (0, 0)) := by rw [← hw6]; exact set_of b5 0 _
      have k6 : Keeps (fun x => x = B) w4.drew w6 := by rw [← hw6]; exact kset _ B 0 _
      have P6 := P5.set k6
      have a6 := k6.at a5 (by have := HA.out.2.2; omega)
      obtain ⟨⟨d0', -, -, -, -, -⟩, g0', -, -, -, -, -⟩ := six_cells b5
      obtain ⟨⟨x0'', x1'', x2'', x3'', x4'', x5''⟩, -⟩ := six_cells a6
      have qch := chargedM_any w6 mm M p i KS.out.1 P6.1 HH.out.2.2
      have HP6 := Hid.of (And.intro b6 P6)
      clear b5 a5 P5 b6 k6 P6 a6
      go_wp2_with fail
      refine qch.mono ?_
      rintro e w7 ⟨rfl, k7⟩
      clear qch
      have b7 := k7.at HP6.out.1 (fun x => x)
      have P7 := HP6.out.2.old k7
      obtain ⟨⟨-, -, -, -, -, h5⟩, -, -, -, -, -, j5⟩ := six_cells b7
      generalize hch : charged M i = ch at *
      obtain ⟨w8, hw8⟩ : ∃ w8, w7.setCell ⟨B, 5, none⟩ (.int .i64 ch) = w8 := ⟨_, rfl⟩
      have b8 : w8.heap[B]? = some (.cells (acells ⟨6, 0, 0, 0, (bs []), ch⟩) 36 (0, 0)) := by rw [← hw8]; exact set_of b7 5 _
      have k8 : Keeps (fun x => x = B) w7 w8 := by rw [← hw8]; exact kset _ B 5 _
      have P8 := P7.set k8
      have bb := b8
      obtain ⟨⟨c0, c1, c2, c3, c4, c5⟩, f0, f1, f2, f3, f4, f5⟩ := six_cells bb
      obtain ⟨wf, hwf⟩ : ∃ wf, (((((w8.setCell ⟨B, 0, none⟩ (.int .i64 6)).setCell ⟨B, 1, none⟩ (.int .u64 0)).setCell ⟨B, 2, none⟩ (.int .i64 0) ).setCell ⟨B, 3, none⟩ (.int .i64 0)).setCell ⟨B, 4, none⟩ (.string (bs []))).setCell ⟨B, 5, none⟩ (.int .i64 ch) = wf := ⟨_, rfl⟩
      have bf := set6 bb (.int .i64 6) (.int .u64 0) (.int .i64 0) (.int .i64 0) (.string (bs [])) (.int .i64 ch)
      rw [hwf] at bf
      have kf : Keeps (fun x => x = B) w8 wf := by rw [← hwf]; exact (((((kset _ B 0 _).trans (kset _ B 1 _)).trans (kset _ B 2 _)).trans (kset _ B 3 _)).trans (kset _ B 4 _)).trans (kset _ B 5 _)
      have HF := Hid.of ((P8.set kf).mr)
      obtain ⟨⟨e0, e1, e2, e3, e4, e5⟩, -⟩ := six_cells bf
      clear b7 k7 P7 b8 k8 P8 bb bf kf HP6 HP4 HP2 HA HH HC KS
      go_wp2
      refine bodyPost_ret (v := .agg #[.int .i64 6, .int .u64 0, .int .i64 0, .int .i64 0, .string (bs []), .int .i64 ch]) ?_ ?_ ?_
      · simp [results, Tryd.results9, go_sem, e0, e1, e2, e3, e4, e5]
      · rfl
      · exact ⟨rfl, HF.out⟩
    · have eA : act M i kind n m h d = ((pdo P kind n m h d).1, { M with T := upd M.T i (some (pdo P kind n m h d).2) }) := by unfold act; rw [if_neg (by omega), if_neg (by omega), if_neg (by omega), hP]
      rw [eA]
      have okA := KS.out.2.1
      rw [eA] at okA
      dsimp only at okA ⊢
      have oP := HH.out.2.2.part i KS.out.1 P hP
      have t1 : (kind == 1) = false := by simp; omega
      have t2 : (kind == 2) = false := by simp; omega
      have t3 : (kind == 3) = false := by simp; omega
      have e2 : ptr M p i = some ⟨(p.pl i).b, 0, none⟩ := by unfold ptr; rw [hP]; rfl
      rw [e2] at HK0
      have hq := fun wx (HX : MAt wx mm M p) (TX : Sh.Tab wx) => pdo_any wx (p.pl i) (p.gg i) P kind i n m h d (HX.part i KS.out.1 P hP) oP.1 TX hh KS.out.2.2.1 hn hm HC.out hk4
      generalize (pdo P kind n m h d).2 = P' at hq okA ⊢
      generalize (pdo P kind n m h d).1 = an at hq ⊢
      obtain ⟨E, hd', ad, nn, da, c0'⟩ := an
      have HPP := Hid.of hP
      have HQ := Hid.of hq
      have HOK := Hid.of okA
      dsimp only
      clear eA hP hk4 e2 hq okA oP
      go_enter Tryd.func9, Tryd.ntmps9
      go_wp2_with fail
      refine qck.mono ?_
      rintro e w3 ⟨rfl, k3⟩
      obtain ⟨w4, hw4, b4, P4, a4, T4, ⟨s0, s1⟩, cm⟩ := HK0.out w3 k3
      obtain ⟨⟨x0', x1', x2', x3', x4', x5'⟩, -⟩ := six_cells a4
      obtain ⟨⟨d0, d1, d2, d3, d4, d5⟩, g0, g1, g2, g3, g4, g5⟩ := six_cells b4
      have HP4 := Hid.of (And.intro b4 (And.intro P4 (And.intro a4 T4)))
      clear qck k3 b4 P4 a4 T4 HK0 c2
      go_wp2
      go_region
      clear s0 s1 cm
      have P4 := HP4.out.2.1.old ((Keeps.refl _ _).drew)
      have q := HQ.out w4.drew P4.1 (HP4.out.2.2.2.old ((Keeps.refl _ _).drew))
      clear P4
      go_wp2_with fail
      refine q.mono ?_
      rintro e w5 ⟨rfl, g5, r5⟩
      clear q
      unfold XAns.enc
      dsimp only
      have P4 := HP4.out.2.1.old ((Keeps.refl _ _).drew)
      obtain ⟨p5, P5, K5⟩ := P4.step (MAt.step P4.1 KS.out.1 HPP.out r5)
      have nfB := HP4.out.2.1.nf
      have b5 := K5.at (show w4.drew.heap[B]? = _ from HP4.out.1) nfB
      have a5 := K5.at (show w4.drew.heap[A]? = _ from HP4.out.2.2.1) HA.out.2.1
      clear r5 K5 P4
      obtain ⟨⟨d0', d1', d2', d3', d4', d5'⟩, g0', g1', g2', g3', g4', g5'⟩ := six_cells b5
      obtain ⟨w6, hw6⟩ : ∃ w6, (((((w5.setCell ⟨B, 0, none⟩ (.int .i64 E)).setCell ⟨B, 1, none⟩ (.int .u64 hd')).setCell ⟨B, 2, none⟩ (.int .i64 ad)).setCell ⟨B, 3, none⟩ (.int .i64 nn)).setCell ⟨B, 4, none⟩ (.string da)).setCell ⟨B, 5, none⟩ (.int .i64 c0') = w6 := ⟨_, rfl⟩
      have b6 : w6.heap[B]? = some (.cells (acells ⟨E, hd', ad, nn, da, c0'⟩) 36 (0, 0)) := by rw [← hw6]; exact set6 b5 _ _ _ _ _ _
      have k6 : Keeps (fun x => x = B) w5 w6 := by rw [← hw6]; exact (((((kset _ B 0 _).trans (kset _ B 1 _)).trans (kset _ B 2 _)).trans (kset _ B 3 _)).trans (kset _ B 4 _)).trans (kset _ B 5 _)
      have P6 := P5.set k6
      have a6 := k6.at a5 (by have := HA.out.2.2; omega)
      obtain ⟨⟨x0'', x1'', x2'', x3'', x4'', x5''⟩, -⟩ := six_cells a6
      obtain ⟨M', hM'⟩ : ∃ M', ({ M with T := upd M.T i (some P') } : MM) = M' := ⟨_, rfl⟩
      have HOK' := HOK.out
      rw [hM'] at P6 HOK'
      have HM := Hid.of hM'
      clear hM'
      have qch := chargedM_any w6 mm M' p5 i KS.out.1 P6.1 HOK'
      have HP6 := Hid.of (And.intro b6 P6)
      clear b5 a5 P5 b6 k6 P6 a6
      go_wp2_with fail
      refine qch.mono ?_
      rintro e w7 ⟨rfl, k7⟩
      clear qch
      have b7 := k7.at HP6.out.1 (fun x => x)
      have P7 := HP6.out.2.old k7
      obtain ⟨⟨-, -, -, -, -, h5⟩, -, -, -, -, -, j5⟩ := six_cells b7
      generalize hch : charged M' i = ch at *
      obtain ⟨w8, hw8⟩ : ∃ w8, w7.setCell ⟨B, 5, none⟩ (.int .i64 ch) = w8 := ⟨_, rfl⟩
      have b8 : w8.heap[B]? = some (.cells (acells ⟨E, hd', ad, nn, da, ch⟩) 36 (0, 0)) := by rw [← hw8]; exact set_of b7 5 _
      have k8 : Keeps (fun x => x = B) w7 w8 := by rw [← hw8]; exact kset _ B 5 _
      have P8 := P7.set k8
      have bb := b8
      obtain ⟨⟨c0, c1, c2, c3, c4, c5⟩, f0, f1, f2, f3, f4, f5⟩ := six_cells bb
      obtain ⟨wf, hwf⟩ : ∃ wf, (((((w8.setCell ⟨B, 0, none⟩ (.int .i64 E)).setCell ⟨B, 1, none⟩ (.int .u64 hd')).setCell ⟨B, 2, none⟩ (.int .i64 ad) ).setCell ⟨B, 3, none⟩ (.int .i64 nn)).setCell ⟨B, 4, none⟩ (.string da)).setCell ⟨B, 5, none⟩ (.int .i64 ch) = wf := ⟨_, rfl⟩
      have bf := set6 bb (.int .i64 E) (.int .u64 hd') (.int .i64 ad) (.int .i64 nn) (.string da) (.int .i64 ch)
      rw [hwf] at bf
      have kf : Keeps (fun x => x = B) w8 wf := by rw [← hwf]; exact (((((kset _ B 0 _).trans (kset _ B 1 _)).trans (kset _ B 2 _)).trans (kset _ B 3 _)).trans (kset _ B 4 _)).trans (kset _ B 5 _)
      have HF := Hid.of ((P8.set kf).mr)
      obtain ⟨⟨e0, e1, e2, e3, e4, e5⟩, -⟩ := six_cells bf
      clear b7 k7 P7 b8 k8 P8 bb bf kf HP6 HP4 HP2 HA HH HC KS
      go_wp2
      refine bodyPost_ret (v := .agg #[.int .i64 E, .int .u64 hd', .int .i64 ad, .int .i64 nn, .string da, .int .i64 ch]) ?_ ?_ ?_
      · simp [results, Tryd.results9, go_sem, e0, e1, e2, e3, e4, e5]
      · rfl
      · rw [HM.out, hch]; exact ⟨rfl, HF.out⟩
  · have e : mdo M ⟨kind, t, n, m, h, bs d⟩ = (⟨Op1.chk ⟨kind, t, n, m, h, bs d⟩, 0, 0, 0, bs [], 0⟩, M) := by unfold mdo; rw [if_pos hc]
    rw [e]
    generalize Op1.chk ⟨kind, t, n, m, h, bs d⟩ = E at *
    have t0 : (E != 0) = true := by simpa using hc
    clear e hc
    go_enter Tryd.func9, Tryd.ntmps9
    go_wp2_with fail
    refine qck.mono ?_
    rintro e w3 ⟨rfl, k3⟩
    clear qck
    have b3 := k3.at HP2.out.1 (fun x => x)
    have P3 := HP2.out.2.old k3
    obtain ⟨⟨d0, -, -, -, -, -⟩, g0, -, -, -, -, -⟩ := six_cells b3
    obtain ⟨w4, hw4⟩ : ∃ x, w3.setCell ⟨B, 0, none⟩ (.int .i64 E) = x := ⟨_, rfl⟩
    have b4 : w4.heap[B]? = some (.cells (acells ⟨E, 0, 0, 0, bs [], 0⟩) 36 (0, 0)) := by rw [← hw4]; exact set_of b3 0 _
    have k4 : Keeps (fun x => x = B) w3 w4 := by rw [← hw4]; exact kset _ B 0 _
    have P4 := P3.set k4
    have bb := b4
    obtain ⟨⟨c0, c1, c2, c3, c4, c5⟩, f0, f1, f2, f3, f4, f5⟩ := six_cells bb
    obtain ⟨wf, hwf⟩ : ∃ wf, (((((w4.setCell ⟨B, 0, none⟩ (.int .i64 E)).setCell ⟨B, 1, none⟩ (.int .u64 0)).setCell ⟨B, 2, none⟩ (.int .i64 0) ).setCell ⟨B, 3, none⟩ (.int .i64 0)).setCell ⟨B, 4, none⟩ (.string (bs []))).setCell ⟨B, 5, none⟩ (.int .i64 0) = wf := ⟨_, rfl⟩
    have bf := set6 bb (.int .i64 E) (.int .u64 0) (.int .i64 0) (.int .i64 0) (.string (bs [])) (.int .i64 0)
    rw [hwf] at bf
    have kf : Keeps (fun x => x = B) w4 wf := by rw [← hwf]; exact (((((kset _ B 0 _).trans (kset _ B 1 _)).trans (kset _ B 2 _)).trans (kset _ B 3 _)).trans (kset _ B 4 _)).trans (kset _ B 5 _)
    have HF := Hid.of ((P4.set kf).mr)
    obtain ⟨⟨e0, e1, e2, e3, e4, e5⟩, -⟩ := six_cells bf
    clear k3 b3 P3 b4 k4 P4 bb bf kf HP2 HA HH
    go_wp2
    refine bodyPost_ret (v := .agg #[.int .i64 E, .int .u64 0, .int .i64 0, .int .i64 0, .string (bs []), .int .i64 0]) ?_ ?_ ?_
    · simp [results, Tryd.results9, go_sem, e0, e1, e2, e3, e4, e5]
    · rfl
    · exact ⟨rfl, HF.out⟩
end Mo
end Go.Proofs.YtagmkkddjdlncaaDoor
