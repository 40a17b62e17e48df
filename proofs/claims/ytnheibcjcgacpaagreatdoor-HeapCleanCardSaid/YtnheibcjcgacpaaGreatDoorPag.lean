/- The page package's walks: Has, Used, Full, collect, lies. | The page package's walks: Alloc. | The page package's walks: Alloc of a block that waited, of one that never was given out. | The page package's walks: Free, lies, New, Move. | The page package's walks: Free, lies, New, Move. | The page package's walks: Free, lies, New, Move. -/
import Derived.Test.YtnheibcjcgacpaaGreatDoorChn
import Derived.Test.YtnheibcjcgacpaaGreatDoorShel
import Derived.Test.YtnheibcjcgacpaaGreatDoorPlc
set_option linter.unusedVariables false
set_option linter.unusedSimpArgs false
/-! The page package's walks: Has, Used, Full, collect, lies. -/
namespace Go.Proofs.YtnheibcjcgacpaaGreatDoor
open Go.RowKit Go.ChangeMaps
namespace Pg
/-- A page's places: the struct, its two chains, its shelf with its words. -/
structure Pla where
  b : Nat
  r : Nat
  t : Nat
  h : Nat
  hv : Value
/-- A page: where it lies, its kind, how many blocks were given out ever; the ready ones, the waiting ones; which ones are free. -/
structure PG where
  base : Nat
  kind : Nat
  fresh : Nat
  R : List Nat
  W : List Nat
  S : List Bool
def hd : List Nat → Int
  | [] => -1
  | k :: _ => (k : Int)
def Pf (q : Pla) (x : Nat) : Prop := x = q.b ∨ x = q.r ∨ x = q.t ∨ Sh.Fp q.h q.hv x
def pcells (q : Pla) (a : Nat) (P : PG) : Array Value := #[.pointer (some ⟨q.r, 0, none⟩), .pointer (some ⟨q.t, 0, none⟩), .pointer (some ⟨a, 0, none⟩), .int .i64 P.base, .int .i64 P.kind, .int .i64 P.fresh, .pointer (some ⟨q.h, 0, none⟩)]
def chn (P : PG) (L : List Nat) : Ch.CS := ⟨P.base, Pc.un P.kind, Pc.per P.kind, hd L⟩
structure At (w : World) (q : Pla) (a : Nat) (P : PG) : Prop where
  cells : w.heap[q.b]? = some (.cells (pcells q a P) 252 (0, 0))
  rc : Ch.At w q.r a (chn P P.R)
  tc : Ch.At w q.t a (chn P P.W)
  sh : Sh.At w q.h q.hv P.S
  len : P.S.length = Pc.per P.kind
  kind : P.kind < 8
  base : P.base ≤ 2097152
  fresh : P.fresh ≤ Pc.per P.kind
  rl : ∀ k ∈ P.R, k < Pc.per P.kind
  wl : ∀ k ∈ P.W, k < Pc.per P.kind
  d1 : q.b ≠ q.r ∧ q.b ≠ q.t ∧ q.r ≠ q.t
  d2 : ∀ x, Sh.Fp q.h q.hv x → x ≠ q.b ∧ x ≠ q.r ∧ x ≠ q.t
theorem At.keep {F : Nat → Prop} {w w' : World} {q : Pla} {a : Nat} {P : PG} (h : At w q a P) (k : Keeps F w w') (hf : ∀ x, Pf q x → ¬ F x) : At w' q a P :=
  { h with
    cells := k.at h.cells (hf _ (.inl rfl))
    rc := k.at h.rc (hf _ (.inr (.inl rfl)))
    tc := k.at h.tc (hf _ (.inr (.inr (.inl rfl))))
    sh := h.sh.keep k (fun x hx => hf x (.inr (.inr (.inr hx)))) }
theorem At.old {w w' : World} {q : Pla} {a : Nat} {P : PG} (h : At w q a P) (k : Keeps (fun _ => False) w w') : At w' q a P := h.keep k (fun _ _ x => x)
theorem At.lt {w : World} {q : Pla} {a : Nat} {P : PG} (h : At w q a P) {x : Nat} (hx : Pf q x) : x < w.heap.size := by
  rcases hx with rfl | rfl | rfl | hx
  · exact lt_of h.cells
  · exact lt_of h.rc
  · exact lt_of h.tc
  · exact h.sh.lt hx
theorem hd_range {L : List Nat} {n : Nat} (h : ∀ k ∈ L, k < n) (hn : n ≤ 64) : -1 ≤ hd L ∧ hd L < 64 := by
  cases L with
  | nil => simp [hd]
  | cons k r => have := h k List.mem_cons_self; simp only [hd]; omega
theorem At.ok {w : World} {q : Pla} {a : Nat} {P : PG} (h : At w q a P) {L : List Nat} (hL : ∀ k ∈ L, k < Pc.per P.kind) : Ch.Ok (chn P L) := by
  have h1 := Pc.un_range (c := P.kind) (by have := h.kind; omega)
  have h2 := Pc.per_range h.kind
  have h3 : Pc.un P.kind ≤ 512 := by have := h.kind; unfold Pc.un; rw [if_pos this]; have := Cl.sm_pos this; omega
  exact ⟨h.base, h3, by show Pc.per P.kind ≤ 64; omega, hd_range hL (by omega)⟩
theorem At.seven {w : World} {q : Pla} {a : Nat} {P : PG} (h : At w q a P) : w.cell? ⟨q.b, 0, none⟩ = some (.pointer (some ⟨q.r, 0, none⟩)) ∧ w.cell? ⟨q.b, 1, none⟩ = some (.pointer (some ⟨q.t, 0, none⟩)) ∧ w.cell? ⟨q.b, 2, none⟩ = some (.pointer (some ⟨a, 0, none⟩)) ∧ w.cell? ⟨q.b, 3, none⟩ = some (.int .i64 P.base) ∧ w.cell? ⟨q.b, 4, none⟩ = some (.int .i64 P.kind) ∧ w.cell? ⟨q.b, 5, none⟩ = some (.int .i64 P.fresh) ∧ w.cell? ⟨q.b, 6, none⟩ = some (.pointer (some ⟨q.h, 0, none⟩)) :=
  ⟨cell_of h.cells 0 rfl, cell_of h.cells 1 rfl, cell_of h.cells 2 rfl, cell_of h.cells 3 rfl, cell_of h.cells 4 rfl, cell_of h.cells 5 rfl, cell_of h.cells 6 rfl⟩
theorem chn_pos (P : PG) {L : List Nat} (h : L ≠ []) : decide ((chn P L).head < 0) = false := by
  cases L with
  | nil => exact absurd rfl h
  | cons k r => exact decide_eq_false (show ¬ ((k : Int) < 0) by omega)
def has (P : PG) (k : Int) : Bool := decide (0 ≤ k ∧ k < P.S.length ∧ P.S.getD k.toNat false = false)
set_option maxRecDepth 100000 in
theorem has_any (w : World) (q : Pla) (a : Nat) (P : PG) (k : Int) (h : At w q a P) :
    Calls Tryz.prog 94 #[.pointer (some ⟨q.b, 0, none⟩), .int .i64 k] w fun e w' => e = .returned (.bool (has P k)) ∧ w = w' := by
  obtain ⟨-, -, -, -, -, -, c6⟩ := h.seven
  have t := Sh.taken_any w q.h q.hv P.S k h.sh
  unfold has
  generalize decide (0 ≤ k ∧ k < P.S.length ∧ P.S.getD k.toNat false = false) = r at *
  clear h
  go_enter Tryz.func94, Tryz.ntmps94
  go_wp2_with fail
  refine t.mono ?_
  rintro e w3 ⟨rfl, rfl⟩
  clear t
  go_wp2
  go_ret
  exact ⟨rfl, rfl⟩
set_option maxRecDepth 100000 in
theorem has_nil (w : World) (k : Int) : Calls Tryz.prog 94 #[.pointer none, .int .i64 k] w fun e w' => e = .returned (.bool false) ∧ w = w' := by
  go_enter Tryz.func94, Tryz.ntmps94
  go_wp2
  go_ret
  exact ⟨rfl, rfl⟩
def full (P : PG) : Bool := decide ((Sh.frees P.S).length = 0)
set_option maxRecDepth 100000 in
theorem full_any (w : World) (q : Pla) (a : Nat) (P : PG) (h : At w q a P) :
    Calls Tryz.prog 86 #[.pointer (some ⟨q.b, 0, none⟩)] w fun e w' => e = .returned (.bool (full P)) ∧ w = w' := by
  obtain ⟨-, -, -, -, -, -, c6⟩ := h.seven
  have t := Sh.free_any w q.h q.hv P.S h.sh
  have hE : Hid (((((Sh.frees P.S).length : Nat) : Int) == 0) = full P) := by
    unfold full; rw [Bool.eq_iff_iff]; exact Hid.of (by simp)
  generalize (Sh.frees P.S).length = N at *
  have hE2 := hE.out
  generalize full P = r at *
  clear h hE
  go_enter Tryz.func86, Tryz.ntmps86
  go_wp2_with fail
  refine t.mono ?_
  rintro e w3 ⟨rfl, rfl⟩
  clear t
  go_wp2
  go_ret
  exact ⟨rfl, rfl⟩
def used (P : PG) : Nat := P.S.length - (Sh.frees P.S).length
set_option maxRecDepth 100000 in
theorem used_any (w : World) (q : Pla) (a : Nat) (P : PG) (h : At w q a P) :
    Calls Tryz.prog 99 #[.pointer (some ⟨q.b, 0, none⟩)] w fun e w' => e = .returned (.int .i64 (used P)) ∧ Keeps (fun _ => False) w w' := by
  obtain ⟨-, -, -, -, -, -, c6⟩ := h.seven
  have t1 := fun n => (Sh.free_any (w.drewN n) q.h q.hv P.S (h.sh.old ((Keeps.refl _ _).drewN n))).mono (fun e w' (h : _ ∧ w.drewN n = w') => And.intro h.1 h.2.symm)
  have t2 := fun n => (Sh.size_any (w.drewN n) q.h q.hv P.S (h.sh.old ((Keeps.refl _ _).drewN n))).mono (fun e w' (h : _ ∧ w.drewN n = w') => And.intro h.1 h.2.symm)
  have hl := Sh.frees_le P.S
  have hs := h.sh.len
  unfold used
  generalize (Sh.frees P.S).length = N at *
  generalize P.S.length = L at *
  have i1 : IntKind.i64.wrap ((L : Int) - (N : Int)) = ((L - N : Nat) : Int) := by rw [show (L : Int) - (N : Int) = ((L - N : Nat) : Int) by omega]; exact IntWalk.i64_in _ (by omega)
  have i2 : wrap64 ((L : Int) - (N : Int)) = ((L - N : Nat) : Int) := Pc.w64' (by omega) (by omega)
  have HT := Hid.of (And.intro t1 t2)
  clear h hl hs t1 t2
  go_enter Tryz.func99, Tryz.ntmps99
  go_wp2
  go_quiet (first | (go_at_call 114; exact Calls.quiet_of_same (HT.out.1 _)) | (go_at_call 91; exact Calls.quiet_of_same (HT.out.2 _)))
  go_wp2
  go_ret
  first | exact ⟨rfl, (Keeps.refl _ _).drewN _⟩ | (refine ⟨?_, (Keeps.refl _ _).drewN _⟩; rw [← i1])
set_option maxRecDepth 100000 in
set_option maxHeartbeats 1000000 in
theorem collect_none (w : World) (q : Pla) (a : Nat) (P : PG) (h : At w q a P) (hW : P.W = []) :
    Calls Tryz.prog 186 #[.pointer (some ⟨q.b, 0, none⟩)] w fun e w' => e = .returned (.bool false) ∧ Keeps (fun _ => False) w w' := by
  obtain ⟨c0, c1, -, -, -, -, -⟩ := h.seven
  have t1 := fun n => (Ch.empty_any (w.drewN n) q.t a (chn P P.W) h.tc).mono (fun e w' (h : _ ∧ w.drewN n = w') => And.intro h.1 h.2.symm)
  have e : decide ((chn P P.W).head < 0) = true := by rw [hW]; rfl
  rw [e] at t1
  have HT := Hid.of t1
  clear h hW t1 e
  go_enter Tryz.func186, Tryz.ntmps186
  go_wp2
  go_quiet (first | (go_at_call 184; exact Calls.quiet_of_same (HT.out _)))
  go_wp2
  go_ret
  exact ⟨rfl, (Keeps.refl _ _).drewN _⟩
def ColR (w : World) (q : Pla) (a : Nat) (P' : PG) (e : Ending) (w' : World) : Prop := e = .returned (.bool true) ∧ At w' q a P' ∧ Keeps (fun x => x = q.r ∨ x = q.t) w w'
set_option maxRecDepth 100000 in
set_option maxHeartbeats 1000000 in
theorem collect_some (w : World) (q : Pla) (a : Nat) (P : PG) (h : At w q a P) (hR : P.R = []) (hW : P.W ≠ []) :
    Calls Tryz.prog 186 #[.pointer (some ⟨q.b, 0, none⟩)] w (ColR w q a { P with R := P.W, W := [] }) := by
  obtain ⟨c0, c1, -, -, -, -, -⟩ := h.seven
  have t1 := Ch.empty_any w.drew q.t a (chn P P.W) h.tc
  have e : decide ((chn P P.W).head < 0) = false := chn_pos P hW
  rw [e] at t1
  have t2 := fun wx (k : Keeps (fun _ => False) w wx) => Ch.take_any wx q.r q.t a a (chn P P.R) (chn P P.W) (k.at h.rc (fun x => x)) (k.at h.tc (fun x => x)) h.d1.2.2 (by rw [hR]; simp [chn, hd])
  have HN := Hid.of (And.intro h (And.intro hR hW))
  have hbr : ¬ (q.b = q.r ∨ q.b = q.t) := by rintro (e | e); exact h.d1.1 e; exact h.d1.2.1 e
  clear h hR hW e
  go_enter Tryz.func186, Tryz.ntmps186
  go_wp2
  go_region_held3 (fun wx => wx.cell? ⟨q.b, 0, none⟩ = some (.pointer (some ⟨q.r, 0, none⟩)) ∧ wx.cell? ⟨q.b, 1, none⟩ = some (.pointer (some ⟨q.t, 0, none⟩)))
    (first | exact ⟨c0, c1⟩ | exact ⟨d0, d1⟩)
    (first
      | (go_at_call 184; refine t1.mono ?_; clear t1; rintro e w2 ⟨rfl, rfl⟩)
      | (go_at_call 270; refine (t2 _ (Keeps.refl _ _).drew).mono ?_; clear t2; rintro e w3 ⟨rfl, a1, a2, k3'⟩; have k3 := k3'.of_drew; have d0 := keep_cell k3 hbr c0; have d1 := keep_cell k3 hbr c1))
  obtain ⟨h, hR, hW⟩ := HN.out
  have HF := Hid.of (show At w3 q a { P with R := P.W, W := [] } ∧ Keeps (fun x => x = q.r ∨ x = q.t) w w3 from
    ⟨{ cells := k3.at h.cells hbr, rc := a1, tc := a2, sh := h.sh.keep k3 (fun x hx e => by obtain ⟨n1, n2, n3⟩ := h.d2 x hx; rcases e with e | e; exact n2 e; exact n3 e), len := h.len, kind := h.kind, base := h.base, fresh := h.fresh, rl := h.wl, wl := fun k hk => by simp at hk, d1 := h.d1, d2 := h.d2 }, k3⟩)
  clear h hR hW a1 a2 k3 k3' d0 d1 HN
  go_wp2
  go_ret
  exact ⟨rfl, HF.out⟩
end Pg
end Go.Proofs.YtnheibcjcgacpaaGreatDoor

/-! The page package's walks: Alloc. -/
namespace Go.Proofs.YtnheibcjcgacpaaGreatDoor
open Go.RowKit Go.ChangeMaps
namespace Pg
/-- The links of a chain, as the arena has them. -/
def Links (B : Bs) (base unit per : Nat) : List Nat → Prop
  | [] => True
  | k :: L => k < per ∧ Ar.Word B (base + k * unit) (hd L + 1).toNat ∧ Links B base unit per L
/-- A page, its arena. -/
structure J (w : World) (q : Pla) (p : Ar.Pl) (v : Value) (P : PG) (S : Ar.AS) : Prop where
  pg : At w q p.a P
  ar : Ar.AtV w p v S
  ap : ∀ x, Pf q x → ¬ Ar.Fp p v x
theorem J.old {w w' : World} {q : Pla} {p : Ar.Pl} {v : Value} {P : PG} {S : Ar.AS} (h : J w q p v P S) (k : Keeps (fun _ => False) w w') : J w' q p v P S := ⟨h.pg.old k, h.ar.old k, h.ap⟩
/-- What a call of a page leaves. -/
def R (w : World) (q : Pla) (p : Ar.Pl) (v : Value) (P' : PG) (S' : Ar.AS) (w' : World) : Prop := ∃ v', J w' q p v' P' S' ∧ Keeps (fun x => Pf q x ∨ Ar.Fp p v x) w w' ∧ ∀ x, Ar.Fp p v' x → Ar.Fp p v x ∨ w.heap.size ≤ x
theorem R.refl {w w' : World} {q : Pla} {p : Ar.Pl} {v : Value} {P : PG} {S : Ar.AS} (h : J w q p v P S) (k : Keeps (fun _ => False) w w') : R w q p v P S w' := ⟨v, h.old k, k.mono (fun _ _ x => x.elim), fun _ h => .inl h⟩
/-- What the page itself turns, the arena left as it was. -/
theorem R.pg {w w' : World} {q : Pla} {p : Ar.Pl} {v : Value} {P P' : PG} {S : Ar.AS} (h : J w q p v P S) (a : At w' q p.a P') (k : Keeps (Pf q) w w') : R w q p v P' S w' :=
  ⟨v, ⟨a, h.ar.keep k (fun x hx hp => h.ap x hp hx), h.ap⟩, k.mono (fun x _ hx => .inl hx), fun x hx => .inl hx⟩
theorem R.trans {w w1 w2 : World} {q : Pla} {p : Ar.Pl} {v : Value} {P1 P2 : PG} {S1 S2 : Ar.AS} (h : R w q p v P1 S1 w1) (k : ∀ v1, J w1 q p v1 P1 S1 → R w1 q p v1 P2 S2 w2) : R w q p v P2 S2 w2 := by
  obtain ⟨v1, j1, k1, f1⟩ := h
  obtain ⟨v2, j2, k2, f2⟩ := k v1 j1
  refine ⟨v2, j2, k1.trans' k2 (fun x hx hl => ?_), fun x hx => ?_⟩
  · rcases hx with hx | hx
    · exact .inl hx
    · rcases f1 x hx with h | h
      · exact .inr h
      · omega
  · rcases f2 x hx with h | h
    · exact f1 x h
    · exact .inr (Nat.le_trans k1.size h)
/-- A shelf's turn. -/
theorem At.shelf {w w' : World} {q : Pla} {a : Nat} {P : PG} (h : At w q a P) {S' : List Bool} (hs : Sh.At w' q.h q.hv S') (k : Keeps (Sh.Fp q.h q.hv) w w') (hl : S'.length = P.S.length) : At w' q a { P with S := S' } :=
  { h with
    cells := k.at h.cells (fun hx => (h.d2 _ hx).1 rfl)
    rc := k.at h.rc (fun hx => (h.d2 _ hx).2.1 rfl)
    tc := k.at h.tc (fun hx => (h.d2 _ hx).2.2 rfl)
    sh := hs
    len := hl.trans h.len }
/-- The ready ones' first is given out. -/
def popP (P : PG) (k : Nat) (L : List Nat) : PG := { P with R := L, S := P.S.set k false }
def popS (P : PG) (S : Ar.AS) (k : Nat) : Ar.AS := ⟨Ar.sto S.B (P.base + k * Pc.un P.kind) 0, Ar.note (Ar.note S.T (P.base + k * Pc.un P.kind) 8 false) (P.base + k * Pc.un P.kind) 8 true⟩
def AllocR (w : World) (q : Pla) (p : Ar.Pl) (v : Value) (P' : PG) (S' : Ar.AS) (k : Nat) (E : Int) (e : Ending) (w' : World) : Prop := e = .returned (.tuple #[.int .i64 k, .int .i64 E]) ∧ R w q p v P' S' w'
set_option maxRecDepth 100000 in
def alFrame (x0 : Value) (u : Nat → Value) : Act := { tmps := #[x0, u 1, u 2, u 3, u 4, u 5, u 6, u 7, u 8, u 9, u 10, u 11, u 12, u 13, u 14, u 15, u 16, u 17, u 18, u 19, u 20, u 21, u 22, u 23, u 24, u 25, u 26, u 27, u 28, u 29, u 30, u 31, u 32, u 33, u 34, u 35, u 36, u 37, u 38, u 39, u 40, u 41, u 42, u 43, u 44, u 45, u 46, u 47, u 48, u 49, u 50, u 51, u 52, u 53, u 54, u 55, u 56, u 57, u 58, u 59, u 60, u 61, u 62, u 63, u 64, u 65, u 66, u 67, u 68, u 69], defers := [] }
set_option maxRecDepth 100000 in
theorem alFrame_is (v0 v1 v2 v3 v4 v5 v6 v7 v8 v9 v10 v11 v12 v13 v14 v15 v16 v17 v18 v19 v20 v21 v22 v23 v24 v25 v26 v27 v28 v29 v30 v31 v32 v33 v34 v35 v36 v37 v38 v39 v40 v41 v42 v43 v44 v45 v46 v47 v48 v49 v50 v51 v52 v53 v54 v55 v56 v57 v58 v59 v60 v61 v62 v63 v64 v65 v66 v67 v68 v69 : Value) : ({ tmps := #[v0, v1, v2, v3, v4, v5, v6, v7, v8, v9, v10, v11, v12, v13, v14, v15, v16, v17, v18, v19, v20, v21, v22, v23, v24, v25, v26, v27, v28, v29, v30, v31, v32, v33, v34, v35, v36, v37, v38, v39, v40, v41, v42, v43, v44, v45, v46, v47, v48, v49, v50, v51, v52, v53, v54, v55, v56, v57, v58, v59, v60, v61, v62, v63, v64, v65, v66, v67, v68, v69], defers := [] } : Act) = alFrame v0 (fun i => #[v0, v1, v2, v3, v4, v5, v6, v7, v8, v9, v10, v11, v12, v13, v14, v15, v16, v17, v18, v19, v20, v21, v22, v23, v24, v25, v26, v27, v28, v29, v30, v31, v32, v33, v34, v35, v36, v37, v38, v39, v40, v41, v42, v43, v44, v45, v46, v47, v48, v49, v50, v51, v52, v53, v54, v55, v56, v57, v58, v59, v60, v61, v62, v63, v64, v65, v66, v67, v68, v69].getD i undef) := rfl
set_option maxRecDepth 100000 in
set_option maxHeartbeats 2000000 in
theorem alloc_ready (w : World) (q : Pla) (p : Ar.Pl) (v : Value) (P : PG) (S : Ar.AS) (k : Nat) (L : List Nat) (h : J w q p v P S) (hR : P.R = k :: L) (hl : Links S.B P.base (Pc.un P.kind) (Pc.per P.kind) P.R) (hf : P.S.getD k false = true) (ht : S.T.length + 1 ≤ 1000000000) :
    Calls Tryz.prog 85 #[.pointer (some ⟨q.b, 0, none⟩)] w (AllocR w q p v (popP P k L) (popS P S k) k 0) := by
  obtain ⟨c0, -, -, -, -, -, c6⟩ := h.pg.seven
  rw [hR] at hl
  obtain ⟨hk, hw, hl'⟩ := hl
  have t1 := Ch.empty_any w q.r p.a (chn P P.R) h.pg.rc
  have e : decide ((chn P P.R).head < 0) = false := chn_pos P (by rw [hR]; simp)
  rw [e] at t1
  have hL : ∀ j ∈ L, j < Pc.per P.kind := fun j hj => h.pg.rl j (by rw [hR]; exact List.mem_cons_of_mem _ hj)
  have hp32 := (Pc.per_range h.pg.kind).2
  have hx : (hd L + 1).toNat ≤ Pc.per P.kind := by
    cases L with
    | nil => simp only [hd]; omega
    | cons j r => have := hL j List.mem_cons_self; simp only [hd]; omega
  have t2 := Ch.pop_any w q.r p v S (chn P P.R) k (hd L + 1).toNat h.pg.rc h.ar (h.ap _ (.inr (.inl rfl))) (h.pg.ok h.pg.rl) (by rw [hR]; rfl) hw hx ht
  unfold Ch.PopR at t2
  have hh : (((hd L + 1).toNat : Nat) : Int) - 1 = hd L := by
    have := (hd_range hL (by omega)).1; omega
  rw [hh] at t2
  have hloc : Ch.loc (chn P P.R) k = P.base + k * Pc.un P.kind := rfl
  rw [hloc] at t2
  have t3 := fun wx (hs : Sh.At wx q.h q.hv P.S) => Sh.takeAt_any wx q.h q.hv P.S k hs (by rw [h.pg.len]; exact hk) hf
  have HH := Hid.of (And.intro h (And.intro hR hL))
  have hcr : { chn P P.R with head := hd L } = chn P L := rfl
  rw [hcr] at t2
  clear h hR hl' hk hw hf ht e hL hp32 hx hh hloc hcr
  go_enter Tryz.func85, Tryz.ntmps85
  go_wp2
  refine wp_scope_once 0 (fun m a' w' => ∃ (u : Nat → Value), a' = alFrame (.pointer (some ⟨q.b, 0, none⟩)) u ∧ w' = w) rfl ?_ ?_
  · rintro m a' w' ⟨u, hf, hw⟩
    unfold alFrame at hf
    subst hf
    subst hw
    go_wp2_with fail
    refine t1.mono ?_
    rintro e w1 ⟨rfl, rfl⟩
    clear t1
    go_wp2_with fail
    refine t2.mono ?_
    rintro e w2 ⟨rfl, v2, a2, r2, k2, f2⟩
    have HJ := Hid.of (show J w2 q p v2 { P with R := L } (popS P S k) ∧ Keeps (fun x => x = q.r ∨ Ar.Fp p v x) w' w2 ∧ (∀ x, Ar.Fp p v2 x → Ar.Fp p v x ∨ w'.heap.size ≤ x) from by
      obtain ⟨h, hR, hL⟩ := HH.out
      have hf : ∀ x, Pf q x → x ≠ q.r → ¬ (x = q.r ∨ Ar.Fp p v x) := fun x hx hn e => by rcases e with e | e; exact hn e; exact h.ap x hx e
      refine ⟨⟨{ h.pg with cells := k2.at h.pg.cells (hf _ (.inl rfl) h.pg.d1.1), rc := r2, tc := k2.at h.pg.tc (hf _ (.inr (.inr (.inl rfl))) (fun e => h.pg.d1.2.2 e.symm)), sh := h.pg.sh.keep k2 (fun x hx => hf x (.inr (.inr (.inr hx))) (h.pg.d2 x hx).2.1), rl := hL }, a2, fun x hx hy => ?_⟩, k2, f2⟩
      rcases f2 x hy with e | e
      · exact h.ap x hx e
      · have := h.pg.lt hx; omega)
    obtain ⟨-, -, -, -, -, -, d6⟩ := HJ.out.1.pg.seven
    have q3 := t3 w2 HJ.out.1.pg.sh
    clear t2 a2 r2 k2 f2 t3
    go_wp2_with fail
    refine q3.mono ?_
    rintro e w3 ⟨rfl, s3, k3⟩
    have HF := Hid.of (show R w' q p v (popP P k L) (popS P S k) w3 from by
      obtain ⟨j, k, f⟩ := HJ.out
      have r1 : R w' q p v { P with R := L } (popS P S _) w2 := ⟨v2, j, k.mono (fun x _ hx => by rcases hx with e | e; exact .inl (.inr (.inl e)); exact .inr e), f⟩
      exact r1.trans (fun v1 j1 => R.pg j1 (j1.pg.shelf s3 k3 (by simp)) (k3.mono (fun x _ hx => .inr (.inr (.inr hx))))))
    clear q3 s3 k3 HJ
    go_wp2
    simp only [Exit.jump]
    go_ret2
    exact ⟨rfl, HF.out⟩
  · intro hr
    go_wp2_with fail
    first
      | (refine wp_label ?_
         exact hr 0 _ _ ⟨_, alFrame_is .., rfl⟩)
      | (go_step3
         refine (by assumption : ∀ (a : Act) (w : World), Code.wp _ _ _ a w → _) _ _ ?_
         exact hr 0 _ _ ⟨_, alFrame_is .., rfl⟩)
end Pg
end Go.Proofs.YtnheibcjcgacpaaGreatDoor

/-! The page package's walks: Alloc of a block that waited, of one that never was given out. -/
namespace Go.Proofs.YtnheibcjcgacpaaGreatDoor
open Go.RowKit Go.ChangeMaps
namespace Pg
theorem R.before {w w1 w2 : World} {q : Pla} {p : Ar.Pl} {v : Value} {P' : PG} {S' : Ar.AS} (k0 : Keeps (Pf q) w w1) (r : R w1 q p v P' S' w2) : R w q p v P' S' w2 := by
  obtain ⟨v', j, k, f⟩ := r
  refine ⟨v', j, (k0.mono (fun x _ hx => .inl hx)).trans k, fun x hx => ?_⟩
  rcases f x hx with h | h
  · exact .inl h
  · exact .inr (Nat.le_trans k0.size h)
set_option maxRecDepth 100000 in
set_option maxHeartbeats 2000000 in
theorem alloc_wait (w : World) (q : Pla) (p : Ar.Pl) (v : Value) (P0 : PG) (S : Ar.AS) (k : Nat) (L : List Nat) (h0 : J w q p v P0 S) (hR0 : P0.R = []) (hW0 : P0.W = k :: L) (hl : Links S.B P0.base (Pc.un P0.kind) (Pc.per P0.kind) P0.W) (hf : P0.S.getD k false = true) (ht : S.T.length + 1 ≤ 1000000000) :
    Calls Tryz.prog 85 #[.pointer (some ⟨q.b, 0, none⟩)] w (AllocR w q p v (popP { P0 with R := P0.W, W := [] } k L) (popS P0 S k) k 0) := by
  obtain ⟨c00, -, -, -, -, -, -⟩ := h0.pg.seven
  have te := Ch.empty_any w q.r p.a (chn P0 P0.R) h0.pg.rc
  have ee : decide ((chn P0 P0.R).head < 0) = true := by rw [hR0]; rfl
  rw [ee] at te
  have tc := collect_some w q p.a P0 h0.pg hR0 (by rw [hW0]; simp)
  unfold ColR at tc
  obtain ⟨P, hP⟩ : ∃ P, { P0 with R := P0.W, W := [] } = P := ⟨_, rfl⟩
  have hR : P.R = k :: L := by rw [← hP]; exact hW0
  have hS0 : popS P0 S k = popS P S k := by rw [← hP]; rfl
  have hl2 : Links S.B P.base (Pc.un P.kind) (Pc.per P.kind) P.R := by rw [← hP]; exact hl
  have hf2 : P.S.getD k false = true := by rw [← hP]; exact hf
  rw [hP] at tc ⊢
  rw [hS0]
  clear hl hf hS0 hP
  rw [hR] at hl2
  obtain ⟨hk, hw, hl'⟩ := hl2
  have key : ∀ wx, J wx q p v P S →
      (Calls Tryz.prog 184 #[.pointer (some ⟨q.r, 0, none⟩)] wx fun e w' => e = .returned (.bool false) ∧ wx = w') ∧
      (Calls Tryz.prog 185 #[.pointer (some ⟨q.r, 0, none⟩)] wx (Ch.PopR wx q.r p v (popS P S k) (chn P L) k)) ∧
      (∀ wy, Sh.At wy q.h q.hv P.S → Calls Tryz.prog 180 #[.pointer (some ⟨q.h, 0, none⟩), .int .i64 k] wy fun e w' => e = .returned (.int .i64 0) ∧ Sh.At w' q.h q.hv (P.S.set k false) ∧ Keeps (Sh.Fp q.h q.hv) wy w') ∧ (∀ j ∈ L, j < Pc.per P.kind) := by
    intro wx h
    have t1 := Ch.empty_any wx q.r p.a (chn P P.R) h.pg.rc
    have e : decide ((chn P P.R).head < 0) = false := chn_pos P (by rw [hR]; simp)
    rw [e] at t1
    have hL : ∀ j ∈ L, j < Pc.per P.kind := fun j hj => h.pg.rl j (by rw [hR]; exact List.mem_cons_of_mem _ hj)
    have hp32 := (Pc.per_range h.pg.kind).2
    have hx : (hd L + 1).toNat ≤ Pc.per P.kind := by
      cases L with
      | nil => simp only [hd]; omega
      | cons j r => have := hL j List.mem_cons_self; simp only [hd]; omega
    have t2 := Ch.pop_any wx q.r p v S (chn P P.R) k (hd L + 1).toNat h.pg.rc h.ar (h.ap _ (.inr (.inl rfl))) (h.pg.ok h.pg.rl) (by rw [hR]; rfl) hw hx ht
    have hh : (((hd L + 1).toNat : Nat) : Int) - 1 = hd L := by
      have := (hd_range hL (by omega)).1; omega
    rw [hh] at t2
    have hloc : Ch.loc (chn P P.R) k = P.base + k * Pc.un P.kind := rfl
    rw [hloc] at t2
    have hcr : { chn P P.R with head := hd L } = chn P L := rfl
    rw [hcr] at t2
    exact ⟨t1, t2, fun wy hs => Sh.takeAt_any wy q.h q.hv P.S k hs (by rw [h.pg.len]; exact hk) hf2, hL⟩
  have HKEY := Hid.of (And.intro key hR)
  have H0 := Hid.of h0
  clear key hR hk hw hl' hf2 ht h0 hR0 hW0 ee
  go_enter Tryz.func85, Tryz.ntmps85
  go_wp2
  refine wp_scope_once 0 (fun m a' w' => ∃ (u : Nat → Value), a' = alFrame (.pointer (some ⟨q.b, 0, none⟩)) u ∧ ((m = 1 ∧ w' = w) ∨ (m = 0 ∧ J w' q p v P S ∧ Keeps (Pf q) w w'))) rfl ?_ ?_
  · rintro m a' w' ⟨u, hf, hw⟩
    unfold alFrame at hf
    subst hf
    rcases hw with ⟨rfl, rfl⟩ | ⟨rfl, hJ, hK⟩
    · go_wp2_with fail
      refine te.mono ?_
      rintro e w1 ⟨rfl, rfl⟩
      clear te
      go_wp2_with fail
      refine tc.mono ?_
      rintro e w1 ⟨rfl, a1, k1⟩
      have HN := Hid.of (show J w1 q p v P S ∧ Keeps (Pf q) w' w1 from ⟨⟨a1, H0.out.ar.keep k1 (fun x hx e => by rcases e with rfl | rfl; exact H0.out.ap _ (.inr (.inl rfl)) hx; exact H0.out.ap _ (.inr (.inr (.inl rfl))) hx), H0.out.ap⟩, k1.mono (fun x _ e => by rcases e with e | e; exact .inr (.inl e); exact .inr (.inr (.inl e)))⟩)
      clear tc a1 k1
      go_wp2
      go_step3
      exact ⟨rfl, 0, by omega, _, alFrame_is .., .inr ⟨rfl, HN.out.1, HN.out.2⟩⟩
    · obtain ⟨t1, t2, t3, hL⟩ := HKEY.out.1 w' hJ
      have hR := HKEY.out.2
      unfold Ch.PopR at t2
      obtain ⟨c0, -, -, -, -, -, c6⟩ := hJ.pg.seven
      have HH := Hid.of (And.intro hJ (And.intro hR hL))
      have HK0 := Hid.of hK
      clear hJ hR hL hK te tc HKEY
      go_wp2_with fail
      refine t1.mono ?_
      rintro e w1 ⟨rfl, rfl⟩
      clear t1
      go_wp2_with fail
      refine t2.mono ?_
      rintro e w2 ⟨rfl, v2, a2, r2, k2, f2⟩
      have HJ := Hid.of (show J w2 q p v2 { P with R := L } (popS P S k) ∧ Keeps (fun x => x = q.r ∨ Ar.Fp p v x) w' w2 ∧ (∀ x, Ar.Fp p v2 x → Ar.Fp p v x ∨ w'.heap.size ≤ x) from by
        obtain ⟨h, hR, hL⟩ := HH.out
        have hf : ∀ x, Pf q x → x ≠ q.r → ¬ (x = q.r ∨ Ar.Fp p v x) := fun x hx hn e => by rcases e with e | e; exact hn e; exact h.ap x hx e
        refine ⟨⟨{ h.pg with cells := k2.at h.pg.cells (hf _ (.inl rfl) h.pg.d1.1), rc := r2, tc := k2.at h.pg.tc (hf _ (.inr (.inr (.inl rfl))) (fun e => h.pg.d1.2.2 e.symm)), sh := h.pg.sh.keep k2 (fun x hx => hf x (.inr (.inr (.inr hx))) (h.pg.d2 x hx).2.1), rl := hL }, a2, fun x hx hy => ?_⟩, k2, f2⟩
        rcases f2 x hy with e | e
        · exact h.ap x hx e
        · have := h.pg.lt hx; omega)
      obtain ⟨-, -, -, -, -, -, d6⟩ := HJ.out.1.pg.seven
      have q3 := t3 w2 HJ.out.1.pg.sh
      clear t2 a2 r2 k2 f2 t3
      go_wp2_with fail
      refine q3.mono ?_
      rintro e w3 ⟨rfl, s3, k3⟩
      have HF := Hid.of (show R w' q p v (popP P k L) (popS P S k) w3 from by
        obtain ⟨j, k, f⟩ := HJ.out
        have r1 : R w' q p v { P with R := L } (popS P S _) w2 := ⟨v2, j, k.mono (fun x _ hx => by rcases hx with e | e; exact .inl (.inr (.inl e)); exact .inr e), f⟩
        exact r1.trans (fun v1 j1 => R.pg j1 (j1.pg.shelf s3 k3 (by simp)) (k3.mono (fun x _ hx => .inr (.inr (.inr hx))))))
      clear q3 s3 k3 HJ
      go_wp2
      simp only [Exit.jump]
      go_ret2
      exact ⟨rfl, R.before HK0.out HF.out⟩
  · intro hr
    go_wp2_with fail
    first
      | (refine wp_label ?_
         exact hr 1 _ _ ⟨_, alFrame_is .., .inl ⟨rfl, rfl⟩⟩)
      | (go_step3
         refine (by assumption : ∀ (a : Act) (w : World), Code.wp _ _ _ a w → _) _ _ ?_
         exact hr 1 _ _ ⟨_, alFrame_is .., .inl ⟨rfl, rfl⟩⟩)
/-- A block that never was given out is. -/
def frP (P : PG) : PG := { P with fresh := P.fresh + 1, S := P.S.set P.fresh false }
set_option maxRecDepth 100000 in
set_option maxHeartbeats 2000000 in
theorem alloc_fresh (w : World) (q : Pla) (p : Ar.Pl) (v : Value) (P : PG) (S : Ar.AS) (h : J w q p v P S) (hR : P.R = []) (hW : P.W = []) (hfr : P.fresh < Pc.per P.kind) (hf : P.S.getD P.fresh false = true) :
    Calls Tryz.prog 85 #[.pointer (some ⟨q.b, 0, none⟩)] w (AllocR w q p v (frP P) S P.fresh 0) := by
  obtain ⟨c0, -, -, -, -, c5, c6⟩ := h.pg.seven
  have te := Ch.empty_any w q.r p.a (chn P P.R) h.pg.rc
  have ee : decide ((chn P P.R).head < 0) = true := by rw [hR]; rfl
  rw [ee] at te
  have tc := collect_none w q p.a P h.pg hW
  have ts := fun wx (hs : Sh.At wx q.h q.hv P.S) => Sh.size_any wx q.h q.hv P.S hs
  have tt := fun wx (hs : Sh.At wx q.h q.hv P.S) => Sh.takeAt_any wx q.h q.hv P.S P.fresh hs (by rw [h.pg.len]; exact hfr) hf
  have hp32 := (Pc.per_range h.pg.kind).2
  have HH := Hid.of h
  have hlen := h.pg.len
  rw [hlen] at ts
  obtain ⟨Q, hQ⟩ : ∃ Q, Pc.per P.kind = Q := ⟨_, rfl⟩
  rw [hQ] at ts hfr hp32
  have HQ := Hid.of (And.intro hQ hfr)
  obtain ⟨f, hff⟩ : ∃ f, P.fresh = f := ⟨_, rfl⟩
  rw [hff] at c5 hfr tt
  have n1 : ((f : Int) == (Q : Int)) = false := by simp; omega
  have n2 : ¬ f = Q := by omega
  have w1 : wrap64 ((f : Int) + 1) = ((f + 1 : Nat) : Int) := Pc.w64' (by omega) (by omega)
  have i1 : IntKind.i64.wrap (((f + 1 : Nat) : Int) - 1) = (f : Int) := by rw [show ((f + 1 : Nat) : Int) - 1 = (f : Int) by omega]; exact IntWalk.i64_in _ (by omega)
  have i2 : wrap64 (((f + 1 : Nat) : Int) - 1) = (f : Int) := Pc.w64' (by omega) (by omega)
  have HF0 := Hid.of (And.intro hff hfr)
  clear h hR hW hf ee hlen hQ hff hfr hp32
  obtain ⟨f1, hf1⟩ : ∃ f1, f + 1 = f1 := ⟨_, rfl⟩
  rw [hf1] at w1 i1 i2
  have HF1 := Hid.of hf1
  clear hf1
  go_enter Tryz.func85, Tryz.ntmps85
  go_wp2
  refine wp_scope_once 0 (fun m a' w' => ∃ (u : Nat → Value), a' = alFrame (.pointer (some ⟨q.b, 0, none⟩)) u ∧ w' = w) rfl ?_ ?_
  · rintro m a' w' ⟨u, hf, hw⟩
    unfold alFrame at hf
    subst hf
    subst hw
    go_wp2_with fail
    refine te.mono ?_
    rintro e w1 ⟨rfl, rfl⟩
    clear te
    go_wp2_with fail
    refine tc.mono ?_
    rintro e w2 ⟨rfl, k2⟩
    have H2 := Hid.of (HH.out.old k2)
    have HK2 := Hid.of k2
    obtain ⟨-, -, -, -, -, d5', d6⟩ := H2.out.pg.seven
    rw [HF0.out.1] at d5'
    have q1 := ts w2.drew (H2.out.pg.sh.old ((Keeps.refl _ _).drew))
    clear tc k2 ts c0 c5 c6
    go_wp2
    go_region_held3 (fun wx => wx.cell? ⟨q.b, 5, none⟩ = some (.int .i64 f) ∧ wx.cell? ⟨q.b, 6, none⟩ = some (.pointer (some ⟨q.h, 0, none⟩)))
      (first | exact ⟨d5', d6⟩)
      (first | (go_at_call 91; refine q1.mono ?_; clear q1; rintro e w3 ⟨rfl, rfl⟩))
    have H3 := H2.out.pg.old ((Keeps.refl _ w2).drew)
    have b4 := set_of H3.cells 5 (.int .i64 (f1 : Int))
    have y5 := free_of H3.cells 5
    have k4 : Keeps (fun x => x = q.b) w2.drew (w2.drew.setCell ⟨q.b, 5, none⟩ (.int .i64 (f1 : Int))) := (Keeps.refl _ _).setCell _ _ (.inl rfl)
    obtain ⟨w4, hw4⟩ : ∃ w4, w2.drew.setCell ⟨q.b, 5, none⟩ (.int .i64 (f1 : Int)) = w4 := ⟨_, rfl⟩
    rw [hw4] at b4 k4
    have HA4 := Hid.of (show At w4 q p.a { P with fresh := f1 } from
      { H3 with
        cells := b4
        rc := k4.at H3.rc (fun e => H3.d1.1 e.symm)
        tc := k4.at H3.tc (fun e => H3.d1.2.1 e.symm)
        sh := H3.sh.keep k4 (fun x hx e => (H3.d2 x hx).1 e)
        fresh := by have := HF0.out.2; have := HF1.out; rw [HQ.out.1]; show f1 ≤ Q; omega })
    have HK4 := Hid.of k4
    obtain ⟨-, -, -, -, -, e5, e6⟩ := HA4.out.seven
    have q2 := tt w4.drew (HA4.out.sh.old ((Keeps.refl _ _).drew))
    have hbn : ¬ Sh.Fp q.h q.hv q.b := fun hx => (H2.out.pg.d2 _ hx).1 rfl
    have HBN := Hid.of hbn
    clear H3 b4 k4 tt hbn
    go_wp2
    go_region_held3 (fun wx => wx.cell? ⟨q.b, 5, none⟩ = some (.int .i64 f1) ∧ wx.cell? ⟨q.b, 6, none⟩ = some (.pointer (some ⟨q.h, 0, none⟩)))
      (first | exact ⟨e5, e6⟩ | exact ⟨g5, g6⟩)
      (first | (go_at_call 180; refine q2.mono ?_; clear q2; rintro e w5 ⟨rfl, s5, k5'⟩; have k5 := k5'.of_drew; have g5 := keep_cell k5 HBN.out e5; have g6 := keep_cell k5 HBN.out e6))
    have HF := Hid.of (show R w' q p v (frP P) S w5 from by
      have a5 := HA4.out.shelf s5 k5 (by simp)
      have hP : { { P with fresh := f1 } with S := P.S.set f false } = frP P := by unfold frP; rw [HF0.out.1, HF1.out]
      have a5' : At w5 q p.a (frP P) := by rw [← hP]; exact a5
      refine R.pg HH.out a5' ((HK2.out.mono (fun x _ hx => hx.elim)).trans' ((HK4.out.mono (F := fun x => x = q.b) (G := Pf q) (fun x _ e => .inl e)).trans (k5.mono (fun x _ hx => .inr (.inr (.inr hx))))).of_drew (fun x hx _ => hx)))
    clear s5 k5 k5' g5 g6 HA4 HK4
    go_wp2
    simp only [Exit.jump]
    go_ret2
    refine ⟨?_, HF.out⟩
    rw [HF0.out.1]
    rfl
  · intro hr
    go_wp2_with fail
    first
      | (refine wp_label ?_
         exact hr 0 _ _ ⟨_, alFrame_is .., rfl⟩)
      | (go_step3
         refine (by assumption : ∀ (a : Act) (w : World), Code.wp _ _ _ a w → _) _ _ ?_
         exact hr 0 _ _ ⟨_, alFrame_is .., rfl⟩)
end Pg
end Go.Proofs.YtnheibcjcgacpaaGreatDoor

/-! The page package's walks: Free, lies, New, Move. -/
namespace Go.Proofs.YtnheibcjcgacpaaGreatDoor
open Go.RowKit Go.ChangeMaps
namespace Pg
def lc (P : PG) (k : Nat) : Nat := P.base + k * Pc.un P.kind
theorem per_un {c : Nat} (h : c < 8) : Pc.per c * Pc.un c ≤ 512 := by
  rcases Cl.eight_cases h with rfl | rfl | rfl | rfl | rfl | rfl | rfl | rfl <;> simp [Pc.per, Pc.un, Cl.sm]
theorem lc_le {P : PG} (hk : P.kind < 8) {k : Nat} (h : k < Pc.per P.kind) {N : Nat} (hb : P.base + 512 ≤ N) : lc P k + Pc.un P.kind ≤ N := by
  have h1 := per_un hk
  have h2 : (k + 1) * Pc.un P.kind ≤ Pc.per P.kind * Pc.un P.kind := Nat.mul_le_mul_right _ h
  rw [Nat.add_mul] at h2
  unfold lc
  omega
def freeP (P : PG) (k : Nat) : PG := { P with W := k :: P.W, S := P.S.set k true }
def freeS (P : PG) (S : Ar.AS) (k : Nat) : Ar.AS := ⟨Ar.sto (bput S.B (lc P k) (List.replicate (Pc.un P.kind) 0)) (lc P k) (hd P.W + 1).toNat, Ar.note (Ar.note S.T (lc P k) (Pc.un P.kind) true) (lc P k) 8 true⟩
def FreeR (w : World) (q : Pla) (p : Ar.Pl) (v : Value) (P' : PG) (S' : Ar.AS) (e : Ending) (w' : World) : Prop := e = .returned (.int .i64 0) ∧ R w q p v P' S' w'
set_option maxRecDepth 100000 in
theorem lies_any (w : World) (p : Ar.Pl) (v : Value) (S : Ar.AS) (x : Nat) (H : Ar.AtV w p v S) (h1 : x % 512 = 0) (h2 : x + 512 ≤ S.B.length) :
    Calls Tryz.prog 189 #[.pointer (some ⟨p.a, 0, none⟩), .int .i64 x] w fun e w' => e = .returned (.bool true) ∧ w = w' := by
  have q := Ar.size_any w p v S H
  have hL := H.len
  obtain ⟨L, hLL⟩ : ∃ L, S.B.length = L := ⟨_, rfl⟩
  rw [hLL] at q h2 hL
  have t1 : decide ((0 : Int) ≤ (x : Int)) = true := by simp
  have e1 : (x : Int).tmod 512 = 0 := by rw [Int.tmod_eq_emod_of_nonneg (by omega)]; omega
  have e1' : (x : Int) % 512 = 0 := by omega
  have e1'' : x % 512 = 0 := h1
  have w1 : wrap64 ((L : Int) - 512) = ((L - 512 : Nat) : Int) := Pc.w64' (by omega) (by omega)
  have t2 : decide ((x : Int) ≤ ((L - 512 : Nat) : Int)) = true := by simp; omega
  have t2' : decide (x ≤ L - 512) = true := by simp; omega
  generalize L - 512 = M at *
  clear H h2 hL hLL
  go_enter Tryz.func189, Tryz.ntmps189
  go_wp2_with fail
  refine q.mono ?_
  rintro e w3 ⟨rfl, rfl⟩
  go_wp2
  go_ret
  exact ⟨rfl, rfl⟩
set_option maxRecDepth 100000 in
set_option maxHeartbeats 1000000 in
theorem moveS_any (w : World) (q : Pla) (p : Ar.Pl) (v : Value) (P : PG) (S : Ar.AS) (x : Nat) (c0 : w.cell? ⟨q.b, 0, none⟩ = some (.pointer (some ⟨q.r, 0, none⟩))) (c1 : w.cell? ⟨q.b, 1, none⟩ = some (.pointer (some ⟨q.t, 0, none⟩))) (hr : Ch.At w q.r p.a (chn P P.R)) (ht : Ch.At w q.t p.a (chn P P.W)) (H : Ar.AtV w p v S)
    (h1 : Ch.Ok (chn P P.R)) (h2 : Ch.Ok (chn P P.W)) (hn : ¬ Ar.Fp p v q.r) (hd : q.b ≠ q.r ∧ q.b ≠ q.t ∧ q.r ≠ q.t) (hl : x + Pc.un P.kind * Pc.per P.kind ≤ S.B.length) :
    Calls Tryz.prog 230 #[.pointer (some ⟨q.b, 0, none⟩), .int .i64 x] w fun e w' => e = .returned (.tuple #[]) ∧ Ch.At w' q.r p.a (chn { P with base := x } P.R) ∧ Ch.At w' q.t p.a (chn { P with base := x } P.W) ∧ Keeps (fun y => y = q.r ∨ y = q.t) w w' := by
  have q1 := Ch.move_any w q.r p v S (chn P P.R) x hr H h1 hl
  have q2 := fun wx (k : Keeps (fun y => y = q.r) w wx) => Ch.move_any wx q.t p v S (chn P P.W) x (k.at ht (fun e => hd.2.2 e.symm)) (H.keep k (fun y hy e => hn (by have e : y = q.r := e; rw [← e]; exact hy))) h2 hl
  have HD := Hid.of hd
  clear hr ht H h1 h2 hn hl hd
  go_enter Tryz.func230, Tryz.ntmps230
  go_wp2_with fail
  refine q1.mono ?_
  rintro e w1 ⟨rfl, a1, k1⟩
  have d1 := keep_cell k1 HD.out.1 c1
  have H1 := Hid.of (And.intro a1 k1)
  have qq := q2 w1 k1
  clear q1 q2 a1 k1
  go_wp2_with fail
  refine qq.mono ?_
  rintro e w2 ⟨rfl, a2, k2⟩
  have HF := Hid.of (show Ch.At w2 q.r p.a (chn { P with base := x } P.R) ∧ Ch.At w2 q.t p.a (chn { P with base := x } P.W) ∧ Keeps (fun y => y = q.r ∨ y = q.t) w w2 from ⟨k2.at H1.out.1 HD.out.2.2, a2, (H1.out.2.mono (fun y _ e => .inl e)).trans (k2.mono (fun y _ e => .inr e))⟩)
  clear qq a2 k2
  go_wp2
  go_end0
  exact ⟨rfl, HF.out⟩
set_option maxRecDepth 100000 in
set_option maxHeartbeats 1000000 in
theorem move_any (w : World) (q : Pla) (p : Ar.Pl) (v : Value) (P : PG) (S : Ar.AS) (x : Nat) (h : J w q p v P S) (h1 : x % 512 = 0) (h2 : x + 512 ≤ S.B.length) :
    Calls Tryz.prog 136 #[.pointer (some ⟨q.b, 0, none⟩), .int .i64 x] w fun e w' => e = .returned (.int .i64 0) ∧ J w' q p v { P with base := x } S ∧ Keeps (Pf q) w w' := by
  obtain ⟨-, -, c2, -, -, -, -⟩ := h.pg.seven
  have ql := lies_any w p v S x h.ar h1 h2
  have b1 := set_of h.pg.cells 3 (.int .i64 (x : Int))
  have c3 := cell_of (v := .int .i64 (P.base : Int)) h.pg.cells 3 rfl
  have y3 := free_of h.pg.cells 3
  have k1 : Keeps (fun y => y = q.b) w (w.setCell ⟨q.b, 3, none⟩ (.int .i64 (x : Int))) := (Keeps.refl _ _).setCell _ _ (.inl rfl)
  obtain ⟨w1, hw1⟩ : ∃ w1, w.setCell ⟨q.b, 3, none⟩ (.int .i64 (x : Int)) = w1 := ⟨_, rfl⟩
  rw [hw1] at b1 k1
  have hd := h.pg.d1
  have hpu := per_un h.pg.kind
  have hr1 : Ch.At w1 q.r p.a (chn P P.R) := k1.at h.pg.rc (fun e => hd.1 e.symm)
  have ht1 : Ch.At w1 q.t p.a (chn P P.W) := k1.at h.pg.tc (fun e => hd.2.1 e.symm)
  have hv1 := h.ar.keep k1 (fun y hy e => h.ap q.b (.inl rfl) (by have e : y = q.b := e; rw [← e]; exact hy))
  have qm := moveS_any w1 q p v P S x (cell_of b1 0 rfl) (cell_of b1 1 rfl) hr1 ht1 hv1 (h.pg.ok h.pg.rl) (h.pg.ok h.pg.wl) (h.ap _ (.inr (.inl rfl))) hd (by rw [Nat.mul_comm]; omega)
  have HH := Hid.of (And.intro h (And.intro h1 (And.intro h2 (And.intro b1 (And.intro k1 hv1)))))
  clear h h1 h2 b1 k1 hr1 ht1 hv1 hd hpu
  go_enter Tryz.func136, Tryz.ntmps136
  go_wp2_with fail
  refine ql.mono ?_
  rintro e w3 ⟨rfl, rfl⟩
  clear ql
  go_wp2_with fail
  refine qm.mono ?_
  rintro e w2 ⟨rfl, r2, t2, k2⟩
  have HF := Hid.of (show J w2 q p v { P with base := x } S ∧ Keeps (Pf q) w w2 from by
    obtain ⟨h, h1, h2, b1, k1, hv1⟩ := HH.out
    have hL := h.ar.len
    refine ⟨⟨{ cells := k2.at b1 (fun e => by rcases e with e | e; exact h.pg.d1.1 e; exact h.pg.d1.2.1 e), rc := r2, tc := t2, sh := (h.pg.sh.keep k1 (fun y hy e => (h.pg.d2 y hy).1 e)).keep k2 (fun y hy e => by obtain ⟨n1, n2, n3⟩ := h.pg.d2 y hy; rcases e with e | e; exact n2 e; exact n3 e), len := h.pg.len, kind := h.pg.kind, base := by show x ≤ _; omega, fresh := h.pg.fresh, rl := h.pg.rl, wl := h.pg.wl, d1 := h.pg.d1, d2 := h.pg.d2 }, hv1.keep k2 (fun y hy e => ?_), h.ap⟩, (k1.mono (fun y _ e => .inl e)).trans (k2.mono (fun y _ e => by rcases e with e | e; exact .inr (.inl e); exact .inr (.inr (.inl e))))⟩
    rcases e with rfl | rfl
    · exact h.ap _ (.inr (.inl rfl)) hy
    · exact h.ap _ (.inr (.inr (.inl rfl))) hy)
  clear qm r2 t2 k2
  go_wp2
  go_ret
  exact ⟨rfl, HF.out⟩
end Pg
end Go.Proofs.YtnheibcjcgacpaaGreatDoor

/-! The page package's walks: Free, lies, New, Move. -/
namespace Go.Proofs.YtnheibcjcgacpaaGreatDoor
open Go.RowKit Go.ChangeMaps
namespace Pg
def newP (base kind : Nat) : PG := ⟨base, kind, 0, [], [], List.replicate (Pc.per kind) true⟩
def NewR (w : World) (a base kind : Nat) (e : Ending) (w' : World) : Prop := ∃ q, e = .returned (.tuple #[.pointer (some ⟨q.b, 0, none⟩), .int .i64 0]) ∧ At w' q a (newP base kind) ∧ (∀ x, Pf q x → w.heap.size ≤ x) ∧ Keeps (fun _ => False) w w'
set_option maxRecDepth 100000 in
set_option maxHeartbeats 1000000 in
theorem new_any (w : World) (p : Ar.Pl) (v : Value) (S : Ar.AS) (base kind : Nat) (H : Ar.AtV w p v S) (hk : kind < 8) (h1 : base % 512 = 0) (h2 : base + 512 ≤ S.B.length) :
    Calls Tryz.prog 89 #[.pointer (some ⟨p.a, 0, none⟩), .int .i64 base, .int .i64 kind] w (NewR w p.a base kind) := by
  have q1 := Pc.per_any w kind (by omega)
  have q2 := lies_any w p v S base H h1 h2
  have q3 := fun wx => Pc.unit_any wx kind (by omega)
  have hu := Pc.un_range (c := kind) (by omega)
  have hpr := Pc.per_range hk
  have hpu := per_un hk
  have hu5 : Pc.un kind ≤ 512 := by unfold Pc.un; rw [if_pos hk]; have := Cl.sm_pos hk; omega
  have q4 := fun wx (k : Keeps (fun _ => False) w wx) => Ch.new_any wx p v S base (Pc.un kind) (Pc.per kind) (H.old k) (by omega) hu5 (by omega) (by omega) (by rw [Nat.mul_comm]; omega)
  unfold Ch.NewR at q4
  have q5 := fun wx => Sh.new_any wx (Pc.per kind) (by omega)
  unfold Sh.NewR at q5
  have hL := H.len
  have HB := Hid.of (And.intro hk (show base ≤ 2097152 by omega))
  obtain ⟨U, hU⟩ : ∃ U, Pc.un kind = U := ⟨_, rfl⟩
  obtain ⟨Q, hQ⟩ : ∃ Q, Pc.per kind = Q := ⟨_, rfl⟩
  rw [hU] at q3 q4
  rw [hQ] at q1 q4 q5 hpr
  have HUQ := Hid.of (And.intro hU hQ)
  have n1 : ((Q : Int) == 0) = false := by simp; omega
  have n2 : ¬ Q = 0 := by omega
  clear H h1 h2 hu hpr hpu hu5 hL hU hQ
  go_enter Tryz.func89, Tryz.ntmps89
  go_wp2_with fail
  refine q1.mono ?_
  rintro e w1 ⟨rfl, rfl⟩
  clear q1
  go_wp2_with fail
  refine q2.mono ?_
  rintro e w1 ⟨rfl, rfl⟩
  clear q2
  go_wp2_with fail
  refine (q3 _).mono ?_
  rintro e w1 ⟨rfl, rfl⟩
  go_wp2_with fail
  refine (q4 _ (Keeps.refl _ _)).mono ?_
  rintro e w1 ⟨r, rfl, hr, fr, k1⟩
  have H1 := Hid.of (And.intro hr (And.intro fr k1))
  clear hr fr k1
  go_wp2_with fail
  refine (q3 _).mono ?_
  rintro e w1' ⟨rfl, rfl⟩
  clear q3
  go_wp2_with fail
  refine (q4 _ H1.out.2.2).mono ?_
  rintro e w2 ⟨t, rfl, ht, ft, k2⟩
  have H2 := Hid.of (And.intro ht (And.intro ft k2))
  clear ht ft k2 q4
  go_wp2_with fail
  refine (q5 _).mono ?_
  rintro e w3 ⟨h, hv, rfl, hs, fh, k3⟩
  have H3 := Hid.of (And.intro hs (And.intro fh k3))
  clear hs fh k3 q5
  go_wp2
  go_ret2
  obtain ⟨hr, fr, k1⟩ := H1.out
  obtain ⟨ht, ft, k2⟩ := H2.out
  obtain ⟨hs, fh, k3⟩ := H3.out
  obtain ⟨hU, hQ⟩ := HUQ.out
  have l1 : r < w1.heap.size := lt_of hr
  have l2 : t < w2.heap.size := lt_of ht
  have s1 := k1.size
  have s2 := k2.size
  have s3 := k3.size
  have ka : Keeps (fun _ => False) w3 (w3.alloc (.cells #[.pointer (some ⟨r, 0, none⟩), .pointer (some ⟨t, 0, none⟩), .pointer (some ⟨p.a, 0, none⟩), .int .i64 base, .int .i64 kind, .int .i64 0, .pointer (some ⟨h, 0, none⟩)] 252)) := (Keeps.refl _ _).alloc _
  refine ⟨⟨w3.heap.size, r, t, h, hv⟩, rfl, { cells := alloc_new _ _, rc := ?_, tc := ?_, sh := ?_, len := by simp [newP], kind := HB.out.1, base := HB.out.2, fresh := by simp [newP], rl := fun k hk => by simp [newP] at hk, wl := fun k hk => by simp [newP] at hk, d1 := ⟨by simp only; omega, by simp only; omega, by simp only; omega⟩, d2 := fun x hx => ?_ }, fun x hx => ?_, ((k1.trans k2).trans k3).trans ka⟩
  · have := ka.at (k3.at (k2.at hr (fun x => x)) (fun x => x)) (fun x => x)
    simp only [newP, chn, hd, hU, hQ]; exact this
  · have := ka.at (k3.at ht (fun x => x)) (fun x => x)
    simp only [newP, chn, hd, hU, hQ]; exact this
  · have := hs.old ka
    simp only [newP, hQ]; exact this
  · have a1 := fh x hx
    have a2 := hs.lt hx
    exact ⟨by simp only; omega, by simp only; omega, by simp only; omega⟩
  · rcases hx with hx | hx | hx | hx
    · have hx : x = w3.heap.size := hx; omega
    · have hx : x = r := hx; omega
    · have hx : x = t := hx; omega
    · have := fh x hx; omega
end Pg
end Go.Proofs.YtnheibcjcgacpaaGreatDoor

/-! The page package's walks: Free, lies, New, Move. -/
namespace Go.Proofs.YtnheibcjcgacpaaGreatDoor
open Go.RowKit Go.ChangeMaps
namespace Pg
theorem fr_arith {b M l : Nat} {x : Int} (h : l = b + M) (hx : x = (M : Int)) (hM : M ≤ 32 * 256) (hb : b ≤ 2097152) : wrap64 x = (M : Int) ∧ wrap64 ((b : Int) + (M : Int)) = (l : Int) ∧ IntKind.i64.wrap x = (M : Int) ∧ IntKind.i64.wrap ((b : Int) + (M : Int)) = (l : Int) := by
  subst hx
  refine ⟨Pc.w64' rfl (by omega), Pc.w64' (by omega) (by omega), IntWalk.i64_in _ (by omega), ?_⟩
  rw [show (b : Int) + (M : Int) = (l : Int) by omega]
  exact IntWalk.i64_in _ (by omega)
set_option maxRecDepth 100000 in
set_option maxHeartbeats 2000000 in
theorem free_any (w : World) (q : Pla) (p : Ar.Pl) (v : Value) (P : PG) (S : Ar.AS) (k : Nat) (h : J w q p v P S) (hk : k < Pc.per P.kind) (hf : P.S.getD k false = false) (hb : P.base + 512 ≤ S.B.length) (ht : S.T.length + 1 ≤ 1000000000) :
    Calls Tryz.prog 98 #[.pointer (some ⟨q.b, 0, none⟩), .int .i64 k] w (FreeR w q p v (freeP P k) (freeS P S k)) := by
  obtain ⟨-, -, -, -, -, -, c6⟩ := h.pg.seven
  have hl := lc_le h.pg.kind hk hb
  have hu := Pc.un_range (c := P.kind) (by have := h.pg.kind; omega)
  have q1 := Sh.give_any w q.h q.hv P.S k h.pg.sh
  have e1 : Sh.giveE P.S k = 0 := by unfold Sh.giveE; rw [if_pos (by rw [h.pg.len]; omega), Int.toNat_natCast, hf]; rfl
  have e2 : Sh.giveS P.S k = P.S.set k true := by unfold Sh.giveS; rw [if_pos (by rw [h.pg.len]; omega), Int.toNat_natCast]
  rw [e1, e2] at q1
  have q2 := fun wx => Pc.unit_any wx P.kind (by have := h.pg.kind; omega)
  have q3 := fun wx (hx : Ar.AtV wx p v S) => Ar.zero_any wx p v S (lc P k) (Pc.un P.kind) hx hl (by omega)
  unfold Ar.DoneR at q3
  have q4 := fun wx vx (hx : Ar.AtV wx p vx ⟨bput S.B (lc P k) (List.replicate (Pc.un P.kind) 0), Ar.note S.T (lc P k) (Pc.un P.kind) true⟩) (hc : Ch.At wx q.t p.a (chn P P.W)) (hn : ¬ Ar.Fp p vx q.t) =>
    Ch.push_any wx q.t p vx ⟨bput S.B (lc P k) (List.replicate (Pc.un P.kind) 0), Ar.note S.T (lc P k) (Pc.un P.kind) true⟩ (chn P P.W) k hc hx hn (h.pg.ok h.pg.wl) hk (by
      rw [bput_length _ _ _ (by rw [List.length_replicate]; exact hl)]; show lc P k + 8 ≤ _; omega) (by have := Ar.note_len S.T (lc P k) (Pc.un P.kind) true; simp only; omega)
  unfold Ch.PushR at q4
  have hcl : Ch.loc (chn P P.W) k = lc P k := rfl
  have hch : (chn P P.W).head = hd P.W := rfl
  have hcc : { chn P P.W with head := (k : Int) } = chn (freeP P k) (k :: P.W) := rfl
  rw [hcl, hch, hcc] at q4
  have hfS : freeS P S k = ⟨Ar.sto (bput S.B (lc P k) (List.replicate (Pc.un P.kind) 0)) (lc P k) (hd P.W + 1).toNat, Ar.note (Ar.note S.T (lc P k) (Pc.un P.kind) true) (lc P k) 8 true⟩ := rfl
  dsimp only at q4
  rw [← hfS] at q4
  have hlcd : lc P k = P.base + k * Pc.un P.kind := rfl
  have hu8 : Pc.un P.kind ≤ 256 := by unfold Pc.un; rw [if_pos h.pg.kind]; exact (Cl.sm_pos h.pg.kind).2
  have hk32 := (Pc.per_range h.pg.kind).2
  have hba := h.pg.base
  have HH := Hid.of (And.intro h hk)
  have HS := Hid.of hfS
  obtain ⟨U, hU⟩ : ∃ U, Pc.un P.kind = U := ⟨_, rfl⟩
  rw [hU] at q2 q3 hlcd hu8 hu
  obtain ⟨M, hM⟩ : ∃ M, k * U = M := ⟨_, rfl⟩
  have hM2 : M ≤ 32 * 256 := by rw [← hM]; exact Nat.mul_le_mul (by omega) hu8
  rw [hM] at hlcd
  have eM : (k : Int) * (U : Int) = (M : Int) := by rw [← hM]; simp
  obtain ⟨w1, w2, i1, i2⟩ := fr_arith hlcd eM hM2 hba
  have HU := Hid.of hU
  clear hf hb ht hl e1 e2 hcl hch hcc hlcd hu8 hk32 hba hM hM2 eM hk hu hfS hU
  generalize lc P k = l at *
  go_enter Tryz.func98, Tryz.ntmps98
  go_wp2_with fail
  refine q1.mono ?_
  rintro e w1' ⟨rfl, s1, k1⟩
  have HA1 := Hid.of (h.pg.shelf s1 k1 (by simp))
  have HV1 := Hid.of (h.ar.keep k1 (fun x hx e => h.ap x (.inr (.inr (.inr e))) hx))
  have HK1 := Hid.of k1
  obtain ⟨-, d1, d2, d3, d4, -, -⟩ := HA1.out.seven
  clear q1 s1 k1 h c6
  go_wp2_with fail
  refine (q2 _).mono ?_
  rintro e w1'' ⟨rfl, rfl⟩
  clear q2
  have qz := q3 w1'.drew (HV1.out.old ((Keeps.refl _ _).drew))
  clear q3
  go_wp2
  go_region_held3 (fun wx => wx.cell? ⟨q.b, 2, none⟩ = some (.pointer (some ⟨p.a, 0, none⟩)) ∧ wx.cell? ⟨q.b, 3, none⟩ = some (.int .i64 P.base))
    (first | exact ⟨d2, d3⟩ | exact ⟨g2, g3⟩)
    (first | (go_at_call 134; refine qz.mono ?_; clear qz; rintro e w2' ⟨rfl, r2'⟩; have r2 := Ar.R.after ((Keeps.refl _ w1').drew) r2'; obtain ⟨v2, a2, k2, f2⟩ := r2; have g2 := keep_cell k2 (HH.out.1.ap _ (.inl rfl)) d2; have g3 := keep_cell k2 (HH.out.1.ap _ (.inl rfl)) d3))
  have HA2 := Hid.of (show At w2' q p.a { P with S := P.S.set k true } ∧ ¬ Ar.Fp p v2 q.t ∧ (∀ x, Pf q x → ¬ Ar.Fp p v2 x) from by
    have hn : ∀ x, Pf q x → ¬ Ar.Fp p v2 x := fun x hx hy => by
      rcases f2 x hy with e | e
      · exact HH.out.1.ap x hx e
      · have := HA1.out.lt hx; omega
    exact ⟨HA1.out.keep k2 (fun x hx hy => HH.out.1.ap x hx hy), hn _ (.inr (.inr (.inl rfl))), hn⟩)
  have q5 := q4 w2' v2 (by rw [HU.out]; exact a2) HA2.out.1.tc HA2.out.2.1
  obtain ⟨-, e1, -, -, -, -, -⟩ := HA2.out.1.seven
  have HV2 := Hid.of (And.intro k2 f2)
  clear q4 g2 g3 a2 k2 f2 r2' d1 d2 d3 d4
  go_wp2_with fail
  refine q5.mono ?_
  rintro e w3 ⟨rfl, v3, a3, c3, k3, f3⟩
  have HF := Hid.of (show R w q p v (freeP P k) (freeS P S k) w3 from by
    obtain ⟨hA2, hn2, hn⟩ := HA2.out
    obtain ⟨k2, f2⟩ := HV2.out
    have hkeep : ∀ x, Pf q x → x ≠ q.t → ¬ (x = q.t ∨ Ar.Fp p v2 x) := fun x hx hne e => by rcases e with e | e; exact hne e; exact hn x hx e
    have j3 : J w3 q p v3 (freeP P k) (freeS P S k) := by
      refine ⟨{ cells := k3.at hA2.cells (hkeep _ (.inl rfl) hA2.d1.2.1), rc := k3.at hA2.rc (hkeep _ (.inr (.inl rfl)) hA2.d1.2.2), tc := c3, sh := hA2.sh.keep k3 (fun x hx => hkeep x (.inr (.inr (.inr hx))) (hA2.d2 x hx).2.2), len := hA2.len, kind := hA2.kind, base := hA2.base, fresh := hA2.fresh, rl := hA2.rl, wl := fun j hj => ?_, d1 := hA2.d1, d2 := hA2.d2 }, a3, fun x hx hy => ?_⟩
      · rcases List.mem_cons.1 hj with rfl | hj
        · exact HH.out.2
        · exact hA2.wl j hj
      · rcases f3 x hy with e | e
        · exact hn x hx e
        · have := hA2.lt hx; omega
    refine ⟨v3, j3, ((HK1.out.mono (fun x _ hx => .inl (.inr (.inr (.inr hx))))).trans (k2.mono (fun x _ hx => .inr hx))).trans' k3 (fun x hx hl => ?_), fun x hx => ?_⟩
    · rcases hx with e | e
      · exact .inl (.inr (.inr (.inl e)))
      · rcases f2 x e with e | e
        · exact .inr e
        · have := HK1.out.size; omega
    · rcases f3 x hx with e | e
      · rcases f2 x e with e | e
        · exact .inl e
        · have := HK1.out.size; exact .inr (by omega)
      · have := HK1.out.size; have := k2.size; exact .inr (by omega))
  clear q5 a3 c3 k3 f3
  go_wp2
  go_ret
  exact ⟨rfl, HF.out⟩
end Pg
end Go.Proofs.YtnheibcjcgacpaaGreatDoor
