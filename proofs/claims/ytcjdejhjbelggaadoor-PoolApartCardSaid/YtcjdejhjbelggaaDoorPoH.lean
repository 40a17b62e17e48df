/- The pools' laws: a pool and the document's, side by side; done. -/
import Derived.Test.YtcjdejhjbelggaaDoorPoG
set_option linter.unusedVariables false
set_option linter.unusedSimpArgs false
namespace Go.Proofs.YtcjdejhjbelggaaDoor
open Go.RowKit Go.ChangeMaps
namespace Po
theorem good_setAll {Of : List Int} (h : Good Of) {l : List Nat} {o : Int} (ho : -1 ≤ o ∧ o < 8) (hl : ∀ c ∈ l, c < Of.length) : Good (setAll l o Of) := by
  intro c hc
  rw [setAll_len] at hc
  rw [setAll_get l o (-2) Of hl c]
  split
  · exact ho
  · exact h c hc
theorem good_grant {Of : List Int} (h : Good Of) (o k : Int) : Good (grantO Of o k) := by
  unfold grantO
  split
  · rename_i hn
    split
    · exact h
    · exact good_setAll h (by omega) more_lt
  · exact h
theorem good_shrink {Of : List Int} (h : Good Of) (o k : Int) : Good (shrinkO Of o k) := by
  unfold shrinkO
  split
  · split
    · exact h
    · exact good_setAll h (by omega) gone_lt
  · exact h
theorem grantM_len (Of : List Int) (o k : Int) (h : Of.length ≤ 32) : (grantM Of o k).length ≤ 32 := by
  unfold grantM
  split
  · split
    · simp
    · unfold more; rw [List.length_take]; have := win_len Of (-1); omega
  · simp
theorem shrinkM_len (Of : List Int) (o k : Int) (h : Of.length ≤ 32) : (shrinkM Of o k).length ≤ 32 := by
  unfold shrinkM
  split
  · split
    · simp
    · unfold gone; rw [List.length_drop]; have := win_len Of o; omega
  · simp
/-- A pool and the document's that have the same. -/
structure J (w : World) (p s : Nat) (v : Value) (V : Nat → Value) (q : Nat) (u : Value) (Of : List Int) : Prop where
  a : At w p s v V Of
  r : RAt w q u Of
  d : ∀ x, Fp p s v x → ¬ RFp q u x
  vr : ∀ i, i < 8 → ∀ g, (V i).ownBlock = some g → ¬ RFp q u g
  g : Good Of
  T : Sh.Tab w
  tr : ¬ RFp q u 0
def JF (p s : Nat) (v : Value) (q : Nat) (u : Value) (x : Nat) : Prop := Fp p s v x ∨ RFp q u x
theorem J.old {w w' : World} {p s : Nat} {v : Value} {V : Nat → Value} {q : Nat} {u : Value} {Of : List Int} (h : J w p s v V q u Of) (k : Keeps (fun _ => False) w w') : J w' p s v V q u Of :=
  ⟨h.a.old k, h.r.old k, h.d, h.vr, h.g, h.T.old k, h.tr⟩
theorem J.lt {w : World} {p s : Nat} {v : Value} {V : Nat → Value} {q : Nat} {u : Value} {Of : List Int} (h : J w p s v V q u Of) {x : Nat} (hx : JF p s v q u x) : x < w.heap.size := by
  rcases hx with hx | hx
  · exact h.a.lt hx
  · exact h.r.lt hx
/-- Both have done the same. -/
theorem J.step {w w1 w2 : World} {p s : Nat} {v : Value} {V V' : Nat → Value} {q : Nat} {u : Value} {Of Of' : List Int} (h : J w p s v V q u Of) (a1 : At w1 p s v V' Of') (k1 : Keeps (Fp p s v) w w1)
    (b1 : ∀ i, i < 8 → ∀ g, (V' i).ownBlock = some g → (V i).ownBlock = some g ∨ w.heap.size ≤ g) (r2 : RAt w2 q u Of') (k2 : Keeps (RFp q u) w1 w2) (g' : Good Of') : J w2 p s v V' q u Of' ∧ Keeps (JF p s v q u) w w2 := by
  have vr' : ∀ i, i < 8 → ∀ g, (V' i).ownBlock = some g → ¬ RFp q u g := fun i hi g hg hx => by
    rcases b1 i hi g hg with e | e
    · exact h.vr i hi g e hx
    · have := h.r.lt hx; omega
  exact ⟨⟨a1.keep k2 h.d vr', r2, h.d, vr', g', (h.T.keep k1 h.a.off).keep k2 h.tr, h.tr⟩, (k1.mono (fun _ _ x => .inl x)).trans (k2.mono (fun _ _ x => .inr x))⟩
def doneO (Of : List Int) (kind o k : Int) : List Int := if kind = 1 then grantO Of o k else if kind = 2 then shrinkO Of o k else if kind = 3 then shrinkO Of o 0 else Of
def DoneR (w : World) (p s : Nat) (v : Value) (V : Nat → Value) (q : Nat) (u : Value) (Of' : List Int) (e : Ending) (w' : World) : Prop :=
  e = .returned (.bool true) ∧ ∃ V', J w' p s v V' q u Of' ∧ Keeps (JF p s v q u) w w' ∧ (∀ i, i < 8 → ∀ g, (V' i).ownBlock = some g → (V i).ownBlock = some g ∨ w.heap.size ≤ g)
set_option maxRecDepth 100000 in
set_option maxHeartbeats 2000000 in
theorem done_any (w : World) (p s : Nat) (v : Value) (V : Nat → Value) (q : Nat) (u : Value) (Of : List Int) (kind o k : Int) (h : J w p s v V q u Of) :
    Calls Tryd.prog 20 #[.pointer (some ⟨p, 0, none⟩), .pointer (some ⟨q, 0, none⟩), .agg #[.int .i64 kind, .int .i64 o, .int .i64 k]] w (DoneR w p s v V q u (doneO Of kind o k)) := by
  obtain ⟨w1, hw1⟩ : ∃ w1, w.alloc (.cells #[.int .i64 kind, .int .i64 o, .int .i64 k] 30) = w1 := ⟨_, rfl⟩
  have k1 : Keeps (fun _ => False) w w1 := by rw [← hw1]; exact (Keeps.refl _ _).alloc _
  have hb1 : w1.heap[w.heap.size]? = some (.cells #[.int .i64 kind, .int .i64 o, .int .i64 k] 30 (0, 0)) := by rw [← hw1]; exact alloc_new _ _
  have j1 := h.old k1
  obtain ⟨b, hb⟩ : ∃ b, w.heap.size = b := ⟨_, rfl⟩
  rw [hb] at hb1
  have nb : ∀ x, JF p s v q u x → ¬ x = b := fun x hx e => by have := h.lt hx; omega
  have c0 := cell_of (v := .int .i64 kind) hb1 0 rfl
  have c1 := cell_of (v := .int .i64 o) hb1 1 rfl
  have c2 := cell_of (v := .int .i64 k) hb1 2 rfl
  have HJ := Hid.of (And.intro j1 (And.intro k1 nb))
  have HB := Hid.of hb1
  have HZ := Hid.of hb
  clear h j1 k1 nb hb1
  have hk : kind = 1 ∨ (kind ≠ 1 ∧ kind = 2) ∨ (kind ≠ 1 ∧ kind ≠ 2 ∧ kind = 3) ∨ (kind ≠ 1 ∧ kind ≠ 2 ∧ kind ≠ 3) := by omega
  obtain ⟨O, hO⟩ : ∃ O, doneO Of kind o k = O := ⟨_, rfl⟩
  rw [hO]
  have HO := Hid.of hO
  clear hO
  rcases hk with rfl | ⟨h1, rfl⟩ | ⟨h1, h2, rfl⟩ | ⟨h1, h2, h3⟩
  · obtain rfl : O = grantO Of o k := by rw [← HO.out]; rfl
    have q1 := grant_any w1 p s v V Of o k HJ.out.1.a HJ.out.1.T
    have q2 := fun w2 (r : RAt w2 q u Of) => rgrant_any w2 q u Of o k r
    have gd := good_grant HJ.out.1.g o k
    have HM : Hid ((grantM Of o k).length ≤ 32) := Hid.of (grantM_len Of o k HJ.out.1.a.len)
    generalize grantO Of o k = O at *
    generalize grantM Of o k = M at *
    generalize grantE Of o k = E at *
    have HG := Hid.of gd
    clear gd HO
    go_enter Tryd.func20, Tryd.ntmps20
    try rw [hb]
    go_wp2_with fail
    refine q1.mono ?_
    rintro e w2 ⟨u1, V', rfl, o1, a1, k2, b1⟩
    have hb2 := k2.at HB.out (fun hx => HJ.out.2.2 b (.inl hx) rfl)
    have e1 := cell_of (v := .int .i64 o) hb2 1 rfl
    have e2 := cell_of (v := .int .i64 k) hb2 2 rfl
    have qq := q2 w2 (HJ.out.1.r.keep k2 (fun x hx hf => HJ.out.1.d x hf hx))
    obtain ⟨A1, cp1, rfl, -, bb1, r1⟩ := o1.rd
    have HF1 := Hid.of (And.intro a1 (And.intro k2 b1))
    have HB1 := Hid.of bb1
    clear q1 q2 o1 a1 k2 b1 bb1 c0 c1 c2 hw1 hb2
    go_wp2_with fail
    refine qq.mono ?_
    rintro e w3 ⟨u2, rfl, o2, a2, k3⟩
    obtain ⟨A2, cp2, rfl, -, bb2, r2⟩ := o2.rd
    have r1' : Rd w3 A1 (ints (zs M)) := r1.keep k3 (fun ad ea _ hx => by have h1 := (HB1.out ad ea).1; have h2 := HJ.out.1.r.lt hx; omega)
    have q3 := same_is w3 A1 A2 cp1 cp2 (zs M) (zs M) M.length M.length true r1' r2 (zs_length _) (zs_length _) (by have := HM.out; omega) (by have := HM.out; omega) (by simp)
    have HF2 := Hid.of (And.intro a2 k3)
    have eE : (E == E) = true := by simp
    clear qq o2 a2 k3 bb2 r1 r2 r1' e1 e2
    go_wp2_with fail
    refine q3.mono ?_
    rintro e w4 ⟨rfl, k4⟩
    have HK4 := Hid.of k4
    clear q3 k4
    go_wp2
    go_ret
    obtain ⟨a1, k2, b1⟩ := HF1.out
    obtain ⟨a2, k3⟩ := HF2.out
    obtain ⟨j4, kk4⟩ := HJ.out.1.step a1 k2 b1 a2 k3 HG.out
    refine ⟨rfl, V', j4.old HK4.out, ((HJ.out.2.1.mono (fun _ _ x => x.elim)).trans kk4).trans (HK4.out.mono (fun _ _ x => x.elim)), fun i hi g hg => ?_⟩
    rcases b1 i hi g hg with e | e
    · exact .inl e
    · exact .inr (Nat.le_trans HJ.out.2.1.size e)
  · obtain rfl : O = shrinkO Of o k := by rw [← HO.out]; rfl
    have q1 := shrink_any w1 p s v V Of o k HJ.out.1.a
    have q2 := fun w2 (r : RAt w2 q u Of) => rshrink_any w2 q u Of o k r
    have gd := good_shrink HJ.out.1.g o k
    have HM : Hid ((shrinkM Of o k).length ≤ 32) := Hid.of (shrinkM_len Of o k HJ.out.1.a.len)
    generalize shrinkO Of o k = O at *
    generalize shrinkM Of o k = M at *
    generalize shrinkE Of o k = E at *
    have HG := Hid.of gd
    clear gd HO
    go_enter Tryd.func20, Tryd.ntmps20
    try rw [hb]
    go_wp2_with fail
    refine q1.mono ?_
    rintro e w2 ⟨u1, V', rfl, o1, a1, k2, b1⟩
    have hb2 := k2.at HB.out (fun hx => HJ.out.2.2 b (.inl hx) rfl)
    have e1 := cell_of (v := .int .i64 o) hb2 1 rfl
    have e2 := cell_of (v := .int .i64 k) hb2 2 rfl
    have qq := q2 w2 (HJ.out.1.r.keep k2 (fun x hx hf => HJ.out.1.d x hf hx))
    obtain ⟨A1, cp1, rfl, -, bb1, r1⟩ := o1.rd
    have HF1 := Hid.of (And.intro a1 (And.intro k2 b1))
    have HB1 := Hid.of bb1
    clear q1 q2 o1 a1 k2 b1 bb1 c0 c1 c2 hw1 hb2
    go_wp2_with fail
    refine qq.mono ?_
    rintro e w3 ⟨u2, rfl, o2, a2, k3⟩
    obtain ⟨A2, cp2, rfl, -, bb2, r2⟩ := o2.rd
    have r1' : Rd w3 A1 (ints (zs M)) := r1.keep k3 (fun ad ea _ hx => by have h1 := (HB1.out ad ea).1; have h2 := HJ.out.1.r.lt hx; omega)
    have q3 := same_is w3 A1 A2 cp1 cp2 (zs M) (zs M) M.length M.length true r1' r2 (zs_length _) (zs_length _) (by have := HM.out; omega) (by have := HM.out; omega) (by simp)
    have HF2 := Hid.of (And.intro a2 k3)
    have eE : (E == E) = true := by simp
    clear qq o2 a2 k3 bb2 r1 r2 r1' e1 e2
    go_wp2_with fail
    refine q3.mono ?_
    rintro e w4 ⟨rfl, k4⟩
    have HK4 := Hid.of k4
    clear q3 k4
    go_wp2
    go_ret
    obtain ⟨a1, k2, b1⟩ := HF1.out
    obtain ⟨a2, k3⟩ := HF2.out
    obtain ⟨j4, kk4⟩ := HJ.out.1.step a1 k2 b1 a2 k3 HG.out
    refine ⟨rfl, V', j4.old HK4.out, ((HJ.out.2.1.mono (fun _ _ x => x.elim)).trans kk4).trans (HK4.out.mono (fun _ _ x => x.elim)), fun i hi g hg => ?_⟩
    rcases b1 i hi g hg with e | e
    · exact .inl e
    · exact .inr (Nat.le_trans HJ.out.2.1.size e)
  · obtain rfl : O = shrinkO Of o 0 := by rw [← HO.out]; rfl
    have q1 := drop_any w1 p s v V Of o HJ.out.1.a
    have q2 := fun w2 (r : RAt w2 q u Of) => rshrink_any w2 q u Of o 0 r
    have gd := good_shrink HJ.out.1.g o 0
    have HM : Hid ((shrinkM Of o 0).length ≤ 32) := Hid.of (shrinkM_len Of o 0 HJ.out.1.a.len)
    generalize shrinkO Of o 0 = O at *
    generalize shrinkM Of o 0 = M at *
    generalize shrinkE Of o 0 = E at *
    have HG := Hid.of gd
    clear gd HO
    go_enter Tryd.func20, Tryd.ntmps20
    try rw [hb]
    go_wp2_with fail
    refine q1.mono ?_
    rintro e w2 ⟨u1, V', rfl, o1, a1, k2, b1⟩
    have hb2 := k2.at HB.out (fun hx => HJ.out.2.2 b (.inl hx) rfl)
    have e1 := cell_of (v := .int .i64 o) hb2 1 rfl
    have e2 := cell_of (v := .int .i64 k) hb2 2 rfl
    have qq := q2 w2 (HJ.out.1.r.keep k2 (fun x hx hf => HJ.out.1.d x hf hx))
    obtain ⟨A1, cp1, rfl, -, bb1, r1⟩ := o1.rd
    have HF1 := Hid.of (And.intro a1 (And.intro k2 b1))
    have HB1 := Hid.of bb1
    clear q1 q2 o1 a1 k2 b1 bb1 c0 c1 c2 hw1 hb2
    go_wp2_with fail
    refine qq.mono ?_
    rintro e w3 ⟨u2, rfl, o2, a2, k3⟩
    obtain ⟨A2, cp2, rfl, -, bb2, r2⟩ := o2.rd
    have r1' : Rd w3 A1 (ints (zs M)) := r1.keep k3 (fun ad ea _ hx => by have h1 := (HB1.out ad ea).1; have h2 := HJ.out.1.r.lt hx; omega)
    have q3 := same_is w3 A1 A2 cp1 cp2 (zs M) (zs M) M.length M.length true r1' r2 (zs_length _) (zs_length _) (by have := HM.out; omega) (by have := HM.out; omega) (by simp)
    have HF2 := Hid.of (And.intro a2 k3)
    have eE : (E == E) = true := by simp
    clear qq o2 a2 k3 bb2 r1 r2 r1' e1 e2
    go_wp2_with fail
    refine q3.mono ?_
    rintro e w4 ⟨rfl, k4⟩
    have HK4 := Hid.of k4
    clear q3 k4
    go_wp2
    go_ret
    obtain ⟨a1, k2, b1⟩ := HF1.out
    obtain ⟨a2, k3⟩ := HF2.out
    obtain ⟨j4, kk4⟩ := HJ.out.1.step a1 k2 b1 a2 k3 HG.out
    refine ⟨rfl, V', j4.old HK4.out, ((HJ.out.2.1.mono (fun _ _ x => x.elim)).trans kk4).trans (HK4.out.mono (fun _ _ x => x.elim)), fun i hi g hg => ?_⟩
    rcases b1 i hi g hg with e | e
    · exact .inl e
    · exact .inr (Nat.le_trans HJ.out.2.1.size e)
  · obtain rfl : O = Of := by rw [← HO.out]; unfold doneO; rw [if_neg h1, if_neg h2, if_neg h3]
    have d1 : (kind == 1) = false := by simpa using h1
    have d2 : (kind == 2) = false := by simpa using h2
    have d3 : (kind == 3) = false := by simpa using h3
    have q3 := same_is w1 none none 0 0 [] [] 0 0 true (Rd.nil _ _) (Rd.nil _ _) rfl rfl (by omega) (by omega) rfl
    clear h1 h2 h3 HO
    go_enter Tryd.func20, Tryd.ntmps20
    try rw [hb]
    go_wp2_with fail
    refine q3.mono ?_
    rintro e w4 ⟨rfl, k4⟩
    have HK4 := Hid.of k4
    clear q3 k4
    go_wp2
    go_ret
    exact ⟨rfl, V, HJ.out.1.old HK4.out, (HJ.out.2.1.trans HK4.out).mono (fun _ _ x => x.elim), fun i hi g hg => .inl hg⟩
end Po
end Go.Proofs.YtcjdejhjbelggaaDoor
