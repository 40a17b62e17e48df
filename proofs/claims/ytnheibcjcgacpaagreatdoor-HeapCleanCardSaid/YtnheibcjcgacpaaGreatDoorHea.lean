/- The heap's cells, its pieces, what a turn of one piece leaves (printed by gen_hea.py). | A heap, its arena and its map of pages together; the heap package's walks: let, release. | The heap package's walks: release, block, Usable. | The heap package's walks: Usable, hold. -/
import Derived.Test.YtnheibcjcgacpaaGreatDoorPag
import Derived.Test.YtnheibcjcgacpaaGreatDoorCol
import Derived.Test.YtnheibcjcgacpaaGreatDoorTabS
import Derived.Test.YtnheibcjcgacpaaGreatDoorLineA
import Derived.Test.YtnheibcjcgacpaaGreatDoorIntsA
import Derived.Test.YtnheibcjcgacpaaGreatDoorTabA
set_option linter.unusedVariables false
set_option linter.unusedSimpArgs false
/-! The heap's cells, its pieces, what a turn of one piece leaves (printed by gen_hea.py). -/
namespace Go.Proofs.YtnheibcjcgacpaaGreatDoor
open Go.RowKit Go.ChangeMaps
namespace He
/-- A heap's cells: arena, map, window, table, the slots' shelves, the lines, the small kinds' pages. -/
def hc (a m u t : Value) (q l : Nat → Value) (s : Value) : Array Value := #[a, m, u, t, q 0, q 1, q 2, q 3, q 4, q 5, q 6, q 7, q 8, q 9, q 10, q 11, q 12, q 13, q 14, q 15, q 16, q 17, q 18, q 19, q 20, q 21, q 22, q 23, l 0, l 1, l 2, l 3, l 4, l 5, l 6, l 7, s]
def upv (q : Nat → Value) (c : Nat) (x : Value) : Nat → Value := fun i => if i = c then x else q i
theorem hc_slot (a m u t : Value) (q l : Nat → Value) (s : Value) {c : Nat} (h : c < 24) : (hc a m u t q l s)[4 + c]? = some (q c) := by
  have : c = 0 ∨ c = 1 ∨ c = 2 ∨ c = 3 ∨ c = 4 ∨ c = 5 ∨ c = 6 ∨ c = 7 ∨ c = 8 ∨ c = 9 ∨ c = 10 ∨ c = 11 ∨ c = 12 ∨ c = 13 ∨ c = 14 ∨ c = 15 ∨ c = 16 ∨ c = 17 ∨ c = 18 ∨ c = 19 ∨ c = 20 ∨ c = 21 ∨ c = 22 ∨ c = 23 := by omega
  rcases this with rfl | rfl | rfl | rfl | rfl | rfl | rfl | rfl | rfl | rfl | rfl | rfl | rfl | rfl | rfl | rfl | rfl | rfl | rfl | rfl | rfl | rfl | rfl | rfl <;> rfl
theorem hc_line (a m u t : Value) (q l : Nat → Value) (s : Value) {c : Nat} (h : c < 8) : (hc a m u t q l s)[28 + c]? = some (l c) := by
  have : c = 0 ∨ c = 1 ∨ c = 2 ∨ c = 3 ∨ c = 4 ∨ c = 5 ∨ c = 6 ∨ c = 7 := by omega
  rcases this with rfl | rfl | rfl | rfl | rfl | rfl | rfl | rfl <;> rfl
theorem hc_setSlot (a m u t : Value) (q l : Nat → Value) (s x : Value) {c : Nat} (h : c < 24) : (hc a m u t q l s).setIfInBounds (4 + c) x = hc a m u t (upv q c x) l s := by
  have : c = 0 ∨ c = 1 ∨ c = 2 ∨ c = 3 ∨ c = 4 ∨ c = 5 ∨ c = 6 ∨ c = 7 ∨ c = 8 ∨ c = 9 ∨ c = 10 ∨ c = 11 ∨ c = 12 ∨ c = 13 ∨ c = 14 ∨ c = 15 ∨ c = 16 ∨ c = 17 ∨ c = 18 ∨ c = 19 ∨ c = 20 ∨ c = 21 ∨ c = 22 ∨ c = 23 := by omega
  rcases this with rfl | rfl | rfl | rfl | rfl | rfl | rfl | rfl | rfl | rfl | rfl | rfl | rfl | rfl | rfl | rfl | rfl | rfl | rfl | rfl | rfl | rfl | rfl | rfl <;> rfl
theorem hc_setLine (a m u t : Value) (q l : Nat → Value) (s x : Value) {c : Nat} (h : c < 8) : (hc a m u t q l s).setIfInBounds (28 + c) x = hc a m u t q (upv l c x) s := by
  have : c = 0 ∨ c = 1 ∨ c = 2 ∨ c = 3 ∨ c = 4 ∨ c = 5 ∨ c = 6 ∨ c = 7 := by omega
  rcases this with rfl | rfl | rfl | rfl | rfl | rfl | rfl | rfl <;> rfl
theorem hc_congr {a m u t : Value} {q q' l l' : Nat → Value} {s : Value} (h1 : ∀ c, c < 24 → q c = q' c) (h2 : ∀ c, c < 8 → l c = l' c) : hc a m u t q l s = hc a m u t q' l' s := by
  unfold hc
  rw [h1 0 (by omega), h1 1 (by omega), h1 2 (by omega), h1 3 (by omega), h1 4 (by omega), h1 5 (by omega), h1 6 (by omega), h1 7 (by omega), h1 8 (by omega), h1 9 (by omega), h1 10 (by omega), h1 11 (by omega), h1 12 (by omega), h1 13 (by omega), h1 14 (by omega), h1 15 (by omega), h1 16 (by omega), h1 17 (by omega), h1 18 (by omega), h1 19 (by omega), h1 20 (by omega), h1 21 (by omega), h1 22 (by omega), h1 23 (by omega), h2 0 (by omega), h2 1 (by omega), h2 2 (by omega), h2 3 (by omega), h2 4 (by omega), h2 5 (by omega), h2 6 (by omega), h2 7 (by omega)]
def ptr (b : Nat) : Value := .pointer (some ⟨b, 0, none⟩)
/-- A heap's places. -/
structure HX where
  hb : Nat
  u : Value
  tb : Nat
  tm : Nat
  tn : Nat
  sb : Nat → Nat
  sv : Nat → Value
  lb : Nat → Nat
  lm : Nat → Nat
  db : Nat
/-- A heap: its window, its table there and back, which slots are free, the lines, the small kinds' pages by local page. -/
structure HS where
  W : List Int
  E : Tab.Prs
  G : Tab.Prs
  F : Nat → List Bool
  L : Nat → List Int
  D : List (Int × Pg.PG)
/-- A heap's pieces. -/
inductive Pid where
  | box | win | tab | small
  | slot (c : Nat)
  | line (c : Nat)
  | page (v : Int)
deriving DecidableEq
def fp (X : HX) (g : Int → Pg.Pla) : Pid → Nat → Prop
  | .box, x => x = X.hb
  | .win, x => X.u.ownBlock = some x
  | .tab, x => x = X.tb ∨ x = X.tm ∨ x = X.tn
  | .small, x => x = X.db
  | .slot c, x => Sh.Fp (X.sb c) (X.sv c) x
  | .line c, x => x = X.lb c ∨ x = X.lm c
  | .page v, x => Pg.Pf (g v) x
def okp (D : List (Int × Pg.PG)) : Pid → Prop
  | .slot c => c < 24
  | .line c => c < 8
  | .page v => (eget D v).isSome = true
  | _ => True
def Fp (X : HX) (g : Int → Pg.Pla) (D : List (Int × Pg.PG)) (x : Nat) : Prop := ∃ i, okp D i ∧ fp X g i x
def dm (g : Int → Pg.Pla) (D : List (Int × Pg.PG)) : List (Int × Value) := D.map fun x => (x.1, ptr (g x.1).b)
def cellsOf (X : HX) (a m : Nat) : Array Value := hc (ptr a) (ptr m) X.u (ptr X.tb) (fun c => ptr (X.sb c)) (fun c => ptr (X.lb c)) (.map (some X.db))
structure HAt (w : World) (X : HX) (g : Int → Pg.Pla) (a m : Nat) (H : HS) : Prop where
  cells : w.heap[X.hb]? = some (.cells (cellsOf X a m) 155 (0, 0))
  win : Own w 3 1 X.u H.W.length (ints H.W)
  tab : Tab.At w X.tb X.tm X.tn H.E H.G
  inv : Tab.Inv H.E H.G
  slot : ∀ c, c < 24 → Sh.At w (X.sb c) (X.sv c) (H.F c)
  slen : ∀ c, c < 24 → (H.F c).length = Pc.slots c
  line : ∀ c, c < 8 → Line.Rep w (X.lb c) (X.lm c) (H.L c)
  small : EMap (fun v : Value => v) w X.db (dm g H.D)
  page : ∀ v P, eget H.D v = some P → Pg.At w (g v) a P
  apart : ∀ i j, okp H.D i → okp H.D j → i ≠ j → ∀ x, fp X g i x → ¬ fp X g j x
theorem HAt.lt {w : World} {X : HX} {g : Int → Pg.Pla} {a m : Nat} {H : HS} (h : HAt w X g a m H) {x : Nat} (hx : Fp X g H.D x) : x < w.heap.size := by
  obtain ⟨i, hi, hx⟩ := hx
  cases i with
  | box => have hx : x = X.hb := hx; rw [hx]; exact lt_of h.cells
  | win => exact h.win.lt hx
  | tab =>
    obtain ⟨t1, t2, t3, -⟩ := h.tab
    rcases hx with hx | hx | hx
    · rw [hx]; exact lt_of t1
    · rw [hx]; exact t2.lt
    · rw [hx]; exact t3.lt
  | small => have hx : x = X.db := hx; rw [hx]; exact h.small.lt
  | slot c => exact (h.slot c hi).lt hx
  | line c =>
    obtain ⟨l1, l2⟩ := (h.line c hi).lt
    rcases hx with hx | hx
    · rw [hx]; exact l1
    · rw [hx]; exact l2
  | page v =>
    have hi : (eget H.D v).isSome = true := hi
    cases hP : eget H.D v with
    | none => rw [hP] at hi; simp at hi
    | some P => exact (h.page v P hP).lt hx
theorem HAt.keep {F : Nat → Prop} {w w' : World} {X : HX} {g : Int → Pg.Pla} {a m : Nat} {H : HS} (h : HAt w X g a m H) (k : Keeps F w w') (hf : ∀ x, Fp X g H.D x → ¬ F x) : HAt w' X g a m H :=
  { h with
    cells := k.at h.cells (hf _ ⟨.box, trivial, rfl⟩)
    win := h.win.keep k (fun y hy => hf y ⟨.win, trivial, hy⟩)
    tab := h.tab.keep k (hf _ ⟨.tab, trivial, .inl rfl⟩) (hf _ ⟨.tab, trivial, .inr (.inl rfl)⟩) (hf _ ⟨.tab, trivial, .inr (.inr rfl)⟩)
    slot := fun c hc => (h.slot c hc).keep k (fun y hy => hf y ⟨.slot c, hc, hy⟩)
    line := fun c hc => (h.line c hc).keep k (hf _ ⟨.line c, hc, .inl rfl⟩) (hf _ ⟨.line c, hc, .inr rfl⟩)
    small := h.small.keep k (hf _ ⟨.small, trivial, rfl⟩)
    page := fun v P hP => (h.page v P hP).keep k (fun y hy => hf y ⟨.page v, by show (eget H.D v).isSome = true; rw [hP]; rfl, hy⟩) }
theorem HAt.old {w w' : World} {X : HX} {g : Int → Pg.Pla} {a m : Nat} {H : HS} (h : HAt w X g a m H) (k : Keeps (fun _ => False) w w') : HAt w' X g a m H := h.keep k (fun _ _ x => x)
/-- All but one piece, behind a turn of that piece alone. -/
structure Ex (w : World) (X : HX) (g : Int → Pg.Pla) (a m : Nat) (H : HS) (i : Pid) : Prop where
  cells : i ≠ .box → w.heap[X.hb]? = some (.cells (cellsOf X a m) 155 (0, 0))
  win : i ≠ .win → Own w 3 1 X.u H.W.length (ints H.W)
  tab : i ≠ .tab → Tab.At w X.tb X.tm X.tn H.E H.G
  slot : ∀ c, c < 24 → i ≠ .slot c → Sh.At w (X.sb c) (X.sv c) (H.F c)
  line : ∀ c, c < 8 → i ≠ .line c → Line.Rep w (X.lb c) (X.lm c) (H.L c)
  small : i ≠ .small → EMap (fun v : Value => v) w X.db (dm g H.D)
  page : ∀ v P, eget H.D v = some P → i ≠ .page v → Pg.At w (g v) a P
theorem HAt.ex {w w' : World} {X : HX} {g : Int → Pg.Pla} {a m : Nat} {H : HS} (h : HAt w X g a m H) {i : Pid} (hi : okp H.D i) (k : Keeps (fp X g i) w w') : Ex w' X g a m H i := by
  have nb : ∀ j, okp H.D j → i ≠ j → ∀ x, fp X g j x → ¬ fp X g i x := fun j hj hne x hx => h.apart j i hj hi (fun e => hne e.symm) x hx
  exact {
    cells := fun e => k.at h.cells (nb .box trivial e _ rfl)
    win := fun e => h.win.keep k (fun y hy => nb .win trivial e y hy)
    tab := fun e => h.tab.keep k (nb .tab trivial e _ (.inl rfl)) (nb .tab trivial e _ (.inr (.inl rfl))) (nb .tab trivial e _ (.inr (.inr rfl)))
    slot := fun c hc e => (h.slot c hc).keep k (fun y hy => nb (.slot c) hc e y hy)
    line := fun c hc e => (h.line c hc).keep k (nb (.line c) hc e _ (.inl rfl)) (nb (.line c) hc e _ (.inr rfl))
    small := fun e => h.small.keep k (nb .small trivial e _ rfl)
    page := fun v P hP e => (h.page v P hP).keep k (fun y hy => nb (.page v) (by show (eget H.D v).isSome = true; rw [hP]; rfl) e y hy) }
def upl {α : Type} (F : Nat → α) (c : Nat) (x : α) : Nat → α := fun i => if i = c then x else F i
theorem upl_same {α : Type} (F : Nat → α) (c : Nat) (x : α) : upl F c x c = x := by simp [upl]
theorem upl_other {α : Type} (F : Nat → α) {c i : Nat} (x : α) (h : i ≠ c) : upl F c x i = F i := by simp [upl, h]
theorem HAt.setSlot {w w' : World} {X : HX} {g : Int → Pg.Pla} {a m : Nat} {H : HS} (h : HAt w X g a m H) {c : Nat} (hc : c < 24) {S : List Bool} (hs : Sh.At w' (X.sb c) (X.sv c) S) (k : Keeps (Sh.Fp (X.sb c) (X.sv c)) w w') (hl : S.length = (H.F c).length) : HAt w' X g a m { H with F := upl H.F c S } := by
  have e := h.ex (i := .slot c) hc k
  refine { cells := e.cells (by simp), win := e.win (by simp), tab := e.tab (by simp), inv := h.inv, slot := fun i hi => ?_, slen := fun i hi => ?_, line := fun i hi => e.line i hi (by simp), small := e.small (by simp), page := fun v P hP => e.page v P hP (by simp), apart := h.apart }
  · by_cases q : i = c
    · subst q; simp only [upl_same]; exact hs
    · simp only [upl_other _ _ q]; exact e.slot i hi (fun x => q (by injection x with x; exact x.symm))
  · by_cases q : i = c
    · subst q; simp only [upl_same]; rw [hl]; exact h.slen i hi
    · simp only [upl_other _ _ q]; exact h.slen i hi
theorem HAt.setLine {w w' : World} {X : HX} {g : Int → Pg.Pla} {a m : Nat} {H : HS} (h : HAt w X g a m H) {c : Nat} (hc : c < 8) {S : List Int} (hs : Line.Rep w' (X.lb c) (X.lm c) S) (k : Keeps (fun x => x = X.lb c ∨ x = X.lm c) w w') : HAt w' X g a m { H with L := upl H.L c S } := by
  have e := h.ex (i := .line c) hc k
  refine { cells := e.cells (by simp), win := e.win (by simp), tab := e.tab (by simp), inv := h.inv, slot := fun i hi => e.slot i hi (by simp), slen := h.slen, line := fun i hi => ?_, small := e.small (by simp), page := fun v P hP => e.page v P hP (by simp), apart := h.apart }
  by_cases q : i = c
  · subst q; simp only [upl_same]; exact hs
  · simp only [upl_other _ _ q]; exact e.line i hi (fun x => q (by injection x with x; exact x.symm))
theorem HAt.setTab {w w' : World} {X : HX} {g : Int → Pg.Pla} {a m : Nat} {H : HS} (h : HAt w X g a m H) {E G : Tab.Prs} (ht : Tab.At w' X.tb X.tm X.tn E G) (hi : Tab.Inv E G) (k : Keeps (fun x => x = X.tm ∨ x = X.tn) w w') : HAt w' X g a m { H with E := E, G := G } := by
  have e := h.ex (i := .tab) trivial (k.mono (G := fp X g .tab) (fun x _ hx => .inr hx))
  exact { cells := e.cells (by simp), win := e.win (by simp), tab := ht, inv := hi, slot := fun i hi => e.slot i hi (by simp), slen := h.slen, line := fun i hi => e.line i hi (by simp), small := e.small (by simp), page := fun v P hP => e.page v P hP (by simp), apart := h.apart }
theorem dm_eset (g : Int → Pg.Pla) (D : List (Int × Pg.PG)) (v : Int) (P : Pg.PG) (h : (eget D v).isSome = true) : dm g (eset D v P) = dm g D := by
  unfold dm eset
  rw [eget_isSome] at h
  rw [if_pos h, List.map_map]
  refine List.map_congr_left (fun x hx => ?_)
  simp only [Function.comp]
  split
  · rename_i e; simp only [beq_iff_eq] at e; rw [e]
  · rfl
theorem okp_eset {D : List (Int × Pg.PG)} {v : Int} {P : Pg.PG} (h : (eget D v).isSome = true) (i : Pid) : okp (eset D v P) i ↔ okp D i := by
  cases i with
  | page u =>
    show (eget (eset D v P) u).isSome = true ↔ (eget D u).isSome = true
    rw [eget_eset]
    split
    · rename_i e; rw [e]; simp [h]
    · exact Iff.rfl
  | _ => exact Iff.rfl
/-- A page's turn. -/
theorem HAt.setPage {w w' : World} {X : HX} {g : Int → Pg.Pla} {a m : Nat} {H : HS} (h : HAt w X g a m H) {v : Int} {P0 P : Pg.PG} (hv : eget H.D v = some P0) (hp : Pg.At w' (g v) a P) (k : Keeps (Pg.Pf (g v)) w w') : HAt w' X g a m { H with D := eset H.D v P } := by
  have hs : (eget H.D v).isSome = true := by rw [hv]; rfl
  have e := h.ex (i := .page v) hs k
  refine { cells := e.cells (by simp), win := e.win (by simp), tab := e.tab (by simp), inv := h.inv, slot := fun i hi => e.slot i hi (by simp), slen := h.slen, line := fun i hi => e.line i hi (by simp), small := ?_, page := fun u Q hQ => ?_, apart := fun i j hi hj hne => h.apart i j ((okp_eset hs i).1 hi) ((okp_eset hs j).1 hj) hne }
  · simp only [dm_eset g H.D v P hs]; exact e.small (by simp)
  · rw [eget_eset] at hQ
    split at hQ
    · rename_i q; injection hQ with hQ; subst hQ; rw [q]; exact hp
    · rename_i q; exact e.page u Q hQ (fun x => q (by injection x with x; exact x.symm))
end He
end Go.Proofs.YtnheibcjcgacpaaGreatDoor

/-! A heap, its arena and its map of pages together; the heap package's walks: let, release. -/
namespace Go.Proofs.YtnheibcjcgacpaaGreatDoor
open Go.RowKit Go.ChangeMaps
namespace He
def AF (X : HX) (g : Int → Pg.Pla) (D : List (Int × Pg.PG)) (p : Ar.Pl) (v : Value) (cp : Co.Pla) (C : Nat) (x : Nat) : Prop := Fp X g D x ∨ Ar.Fp p v x ∨ Co.Fp cp C x
structure HJ (w : World) (X : HX) (g : Int → Pg.Pla) (p : Ar.Pl) (v : Value) (cp : Co.Pla) (H : HS) (S : Ar.AS) (M : Co.CM) : Prop where
  h : HAt w X g p.a cp.m H
  ar : Ar.AtV w p v S
  co : Co.At w cp M
  T : Sh.Tab w
  ha : ∀ x, Fp X g H.D x → ¬ Ar.Fp p v x
  hc : ∀ x, Fp X g H.D x → ¬ Co.Fp cp M.C x
  ac : ∀ x, Ar.Fp p v x → ¬ Co.Fp cp M.C x
  off : ∀ x, AF X g H.D p v cp M.C x → x ≠ 0
  bl : S.B.length = M.P * 512
  pg : ∀ k, Tab.fnd H.E k < M.P
theorem HJ.old {w w' : World} {X : HX} {g : Int → Pg.Pla} {p : Ar.Pl} {v : Value} {cp : Co.Pla} {H : HS} {S : Ar.AS} {M : Co.CM} (h : HJ w X g p v cp H S M) (k : Keeps (fun _ => False) w w') : HJ w' X g p v cp H S M :=
  { h with h := h.h.old k, ar := h.ar.old k, co := h.co.old k, T := h.T.old k }
theorem HJ.lt {w : World} {X : HX} {g : Int → Pg.Pla} {p : Ar.Pl} {v : Value} {cp : Co.Pla} {H : HS} {S : Ar.AS} {M : Co.CM} (h : HJ w X g p v cp H S M) {x : Nat} (hx : AF X g H.D p v cp M.C x) : x < w.heap.size := by
  rcases hx with hx | hx | hx
  · exact h.h.lt hx
  · exact h.ar.lt hx
  · exact h.co.lt hx
/-- What a call of a heap leaves. -/
structure HG (w : World) (X : HX) (g : Int → Pg.Pla) (p : Ar.Pl) (v : Value) (cp : Co.Pla) (D : List (Int × Pg.PG)) (C : Nat) (X' : HX) (g' : Int → Pg.Pla) (v' : Value) (H' : HS) (S' : Ar.AS) (M' : Co.CM) (w' : World) : Prop where
  j : HJ w' X' g' p v' cp H' S' M'
  hb : X'.hb = X.hb
  c : M'.C = C
  keeps : Keeps (AF X g D p v cp C) w w'
  fh : ∀ x, Fp X' g' H'.D x → Fp X g D x ∨ w.heap.size ≤ x
  fa : ∀ x, Ar.Fp p v' x → Ar.Fp p v x ∨ w.heap.size ≤ x
def HR (w : World) (X : HX) (g : Int → Pg.Pla) (p : Ar.Pl) (v : Value) (cp : Co.Pla) (D : List (Int × Pg.PG)) (C : Nat) (H' : HS) (S' : Ar.AS) (M' : Co.CM) (w' : World) : Prop := ∃ X' g' v', HG w X g p v cp D C X' g' v' H' S' M' w'
theorem HG.refl {w w' : World} {X : HX} {g : Int → Pg.Pla} {p : Ar.Pl} {v : Value} {cp : Co.Pla} {H : HS} {S : Ar.AS} {M : Co.CM} (h : HJ w X g p v cp H S M) (k : Keeps (fun _ => False) w w') : HG w X g p v cp H.D M.C X g v H S M w' :=
  ⟨h.old k, rfl, rfl, k.mono (fun _ _ x => x.elim), fun _ h => .inl h, fun _ h => .inl h⟩
theorem HG.trans {w w1 w2 : World} {X X1 X2 : HX} {g g1 g2 : Int → Pg.Pla} {p : Ar.Pl} {v v1 v2 : Value} {cp : Co.Pla} {D : List (Int × Pg.PG)} {C : Nat} {H1 H2 : HS} {S1 S2 : Ar.AS} {M1 M2 : Co.CM} (a : HG w X g p v cp D C X1 g1 v1 H1 S1 M1 w1) (b : HG w1 X1 g1 p v1 cp H1.D C X2 g2 v2 H2 S2 M2 w2) : HG w X g p v cp D C X2 g2 v2 H2 S2 M2 w2 := by
  refine ⟨b.j, b.hb.trans a.hb, b.c, a.keeps.trans' b.keeps (fun x hx hl => ?_), fun x hx => ?_, fun x hx => ?_⟩
  · rcases hx with hx | hx | hx
    · rcases a.fh x hx with e | e
      · exact .inl e
      · omega
    · rcases a.fa x hx with e | e
      · exact .inr (.inl e)
      · omega
    · exact .inr (.inr hx)
  · rcases b.fh x hx with e | e
    · exact a.fh x e
    · exact .inr (Nat.le_trans a.keeps.size e)
  · rcases b.fa x hx with e | e
    · exact a.fa x e
    · exact .inr (Nat.le_trans a.keeps.size e)
/-- A turn of the heap's own, its places as they were. -/
theorem HJ.own {w w' : World} {X : HX} {g : Int → Pg.Pla} {p : Ar.Pl} {v : Value} {cp : Co.Pla} {H H' : HS} {S : Ar.AS} {M : Co.CM} (h : HJ w X g p v cp H S M) (a : HAt w' X g p.a cp.m H') (k : Keeps (Fp X g H.D) w w') (hD : ∀ i, okp H'.D i → okp H.D i) (hp : ∀ k, Tab.fnd H'.E k < M.P) : HG w X g p v cp H.D M.C X g v H' S M w' := by
  have hF : ∀ x, Fp X g H'.D x → Fp X g H.D x := fun x ⟨i, hi, hx⟩ => ⟨i, hD i hi, hx⟩
  exact ⟨{ h := a, ar := h.ar.keep k (fun x hx hy => h.ha x hy hx), co := h.co.keep k (fun x hx hy => h.hc x hy hx), T := h.T.keep k (fun hx => h.off _ (.inl hx) rfl), ha := fun x hx => h.ha x (hF x hx), hc := fun x hx => h.hc x (hF x hx), ac := h.ac, off := fun x hx => h.off x (by rcases hx with e | e | e; exact .inl (hF x e); exact .inr (.inl e); exact .inr (.inr e)), bl := h.bl, pg := hp },
    rfl, rfl, k.mono (fun x _ hx => .inl hx), fun x hx => .inl (hF x hx), fun x hx => .inl hx⟩
/-- A turn of the arena. -/
theorem HJ.arena {w w' : World} {X : HX} {g : Int → Pg.Pla} {p : Ar.Pl} {v : Value} {cp : Co.Pla} {H : HS} {S S' : Ar.AS} {M : Co.CM} (h : HJ w X g p v cp H S M) (r : Ar.R w p v S' w') (hl : S'.B.length = S.B.length) : ∃ v', HG w X g p v cp H.D M.C X g v' H S' M w' := by
  obtain ⟨v', a, k, f⟩ := r
  refine ⟨v', ⟨{ h := h.h.keep k (fun x hx hy => h.ha x hx hy), ar := a, co := h.co.keep k (fun x hx hy => h.ac x hy hx), T := h.T.keep k (fun hx => h.off _ (.inr (.inl hx)) rfl), ha := fun x hx hy => ?_, hc := h.hc, ac := fun x hx hy => ?_, off := fun x hx => ?_, bl := by rw [hl]; exact h.bl, pg := h.pg }, rfl, rfl, k.mono (fun x _ hx => .inr (.inl hx)), fun x hx => .inl hx, f⟩⟩
  · rcases f x hy with e | e
    · exact h.ha x hx e
    · have := h.h.lt hx; omega
  · rcases f x hx with e | e
    · exact h.ac x e hy
    · have := h.co.lt hy; omega
  · rcases hx with e | e | e
    · exact h.off x (.inl e)
    · rcases f x e with q | q
      · exact h.off x (.inr (.inl q))
      · have := h.T.lt; omega
    · exact h.off x (.inr (.inr e))
/-- A turn of the map. -/
theorem HJ.map {w w' : World} {X : HX} {g : Int → Pg.Pla} {p : Ar.Pl} {v : Value} {cp : Co.Pla} {H : HS} {S : Ar.AS} {M M' : Co.CM} (h : HJ w X g p v cp H S M) (r : Co.R w cp M' w') (hC : M'.C = M.C) (hP : M'.P = M.P) : HG w X g p v cp H.D M.C X g v H S M' w' := by
  obtain ⟨a, k⟩ := r
  rw [hC] at k
  exact ⟨{ h := h.h.keep k (fun x hx hy => h.hc x hx hy), ar := h.ar.keep k (fun x hx hy => h.ac x hx hy), co := a, T := h.T.keep k (fun hx => h.off _ (.inr (.inr hx)) rfl), ha := h.ha, hc := fun x hx => by rw [hC]; exact h.hc x hx, ac := fun x hx => by rw [hC]; exact h.ac x hx, off := fun x hx => h.off x (by rw [hC] at hx; exact hx), bl := by rw [hP]; exact h.bl, pg := fun k => by rw [hP]; exact h.pg k }, rfl, hC, k.mono (fun x _ hx => .inr (.inr hx)), fun x hx => .inl hx, fun x hx => .inl hx⟩
theorem HAt.four {w : World} {X : HX} {g : Int → Pg.Pla} {a m : Nat} {H : HS} (h : HAt w X g a m H) : w.cell? ⟨X.hb, 0, none⟩ = some (.pointer (some ⟨a, 0, none⟩)) ∧ w.cell? ⟨X.hb, 1, none⟩ = some (.pointer (some ⟨m, 0, none⟩)) ∧ w.cell? ⟨X.hb, 2, none⟩ = some X.u ∧ w.cell? ⟨X.hb, 3, none⟩ = some (.pointer (some ⟨X.tb, 0, none⟩)) ∧ w.cell? ⟨X.hb, 36, none⟩ = some (.map (some X.db)) :=
  ⟨cell_of h.cells 0 rfl, cell_of h.cells 1 rfl, cell_of h.cells 2 rfl, cell_of h.cells 3 rfl, cell_of h.cells 36 rfl⟩
theorem HAt.slotCell {w : World} {X : HX} {g : Int → Pg.Pla} {a m : Nat} {H : HS} (h : HAt w X g a m H) {c : Nat} (hc : c < 24) : w.cell? ⟨X.hb, 4 + c, none⟩ = some (.pointer (some ⟨X.sb c, 0, none⟩)) := cell_of h.cells _ (hc_slot _ _ _ _ _ _ _ hc)
theorem HAt.lineCell {w : World} {X : HX} {g : Int → Pg.Pla} {a m : Nat} {H : HS} (h : HAt w X g a m H) {c : Nat} (hc : c < 8) : w.cell? ⟨X.hb, 28 + c, none⟩ = some (.pointer (some ⟨X.lb c, 0, none⟩)) := cell_of h.cells _ (hc_line _ _ _ _ _ _ _ hc)
/-- A local page is let go of. -/
def letH (H : HS) (k : Int) : HS := { H with E := (Tab.unS H.E H.G k).1, G := (Tab.unS H.E H.G k).2 }
def letS (H : HS) (S : Ar.AS) (k : Int) : Ar.AS := if Tab.fnd H.E k < 0 then S else ⟨bput S.B ((Tab.fnd H.E k).toNat * 512) (List.replicate 512 0), Ar.note S.T ((Tab.fnd H.E k).toNat * 512) 512 true⟩
def letM (H : HS) (M : Co.CM) (k : Int) : Co.CM := if Tab.fnd H.E k < 0 then M else Co.give M (Tab.fnd H.E k).toNat
theorem fnd_un (E G : Tab.Prs) (v k : Int) : Tab.fnd (Tab.unS E G v).1 k ≤ Tab.fnd E k ∨ Tab.fnd (Tab.unS E G v).1 k = -1 := by
  unfold Tab.unS
  split
  · exact .inl (Int.le_refl _)
  · show Tab.fnd (edel E v) k ≤ _ ∨ _
    unfold Tab.fnd
    rw [eget_edel]
    split
    · exact .inr rfl
    · exact .inl (Int.le_refl _)
theorem page_fit {x P N : Nat} (hx : x < P) (hN : N = P * 512) : x * 512 + 512 ≤ N := by
  have := Nat.mul_le_mul_right 512 (show x + 1 ≤ P from hx)
  omega
theorem let_arith {x P : Nat} (hx : x < P) (hP : P ≤ 4096) : wrap64 ((x : Int) * 512) = ((x * 512 : Nat) : Int) := Pc.w64' (by omega) (by omega)
def LetR (w : World) (X : HX) (g : Int → Pg.Pla) (p : Ar.Pl) (v : Value) (cp : Co.Pla) (H : HS) (S : Ar.AS) (M : Co.CM) (k : Int) (e : Ending) (w' : World) : Prop := e = .returned (.tuple #[]) ∧ ∃ v', HG w X g p v cp H.D M.C X g v' (letH H k) (letS H S k) (letM H M k) w'
set_option maxRecDepth 100000 in
set_option maxHeartbeats 1000000 in
theorem let_any (w : World) (X : HX) (g : Int → Pg.Pla) (p : Ar.Pl) (v : Value) (cp : Co.Pla) (H : HS) (S : Ar.AS) (M : Co.CM) (k : Int) (j : HJ w X g p v cp H S M) (ht : S.T.length ≤ 1000000000) :
    Calls Tryz.prog 109 #[.pointer (some ⟨X.hb, 0, none⟩), .int .i64 k] w (LetR w X g p v cp H S M k) := by
  obtain ⟨-, -, -, c3, -⟩ := j.h.four
  have q1 := Tab.unmap_any w X.tb X.tm X.tn H.E H.G k j.h.tab
  have hun : ∀ i, Tab.fnd (letH H k).E i < M.P := fun i => by
    have hp := j.pg i
    have hc := j.co.p
    rcases fnd_un H.E H.G k i with e | e
    · show Tab.fnd (Tab.unS H.E H.G k).1 i < _; omega
    · show Tab.fnd (Tab.unS H.E H.G k).1 i < _; omega
  have HJ0 := Hid.of (And.intro j (And.intro ht hun))
  clear ht hun
  by_cases hn : Tab.fnd H.E k < 0
  · have e1 : Tab.unE H.E k = (0, 13) := by unfold Tab.unE; rw [if_pos hn]
    have e2 : letS H S k = S := by unfold letS; rw [if_pos hn]
    have e3 : letM H M k = M := by unfold letM; rw [if_pos hn]
    rw [e1] at q1
    have HE := Hid.of (And.intro e2 e3)
    clear hn e1 e2 e3 j
    go_enter Tryz.func109, Tryz.ntmps109
    go_wp2_with fail
    refine q1.mono ?_
    rintro e w1 ⟨rfl, t1, k1⟩
    have HF := Hid.of (show ∃ v', HG w X g p v cp H.D M.C X g v' (letH H k) (letS H S k) (letM H M k) w1 from by
      rw [HE.out.1, HE.out.2]
      exact ⟨v, HJ0.out.1.own (HJ0.out.1.h.setTab t1 (HJ0.out.1.h.inv.un k) k1) (k1.mono (fun x _ hx => ⟨.tab, trivial, .inr hx⟩)) (fun i hi => hi) HJ0.out.2.2⟩)
    clear q1 t1 k1
    go_wp2
    go_end0
    exact ⟨rfl, HF.out⟩
  · obtain ⟨x, hx⟩ : ∃ x : Nat, Tab.fnd H.E k = x := ⟨(Tab.fnd H.E k).toNat, by omega⟩
    have e1 : Tab.unE H.E k = ((x : Int), 0) := by unfold Tab.unE; rw [if_neg hn, hx]
    have hxP : x < M.P := by have := j.pg k; omega
    have e2 : letS H S k = ⟨bput S.B (x * 512) (List.replicate 512 0), Ar.note S.T (x * 512) 512 true⟩ := by unfold letS; rw [if_neg hn, hx]; rfl
    have e3 : letM H M k = Co.give M x := by unfold letM; rw [if_neg hn, hx]; rfl
    have hfit := page_fit hxP j.bl
    have wx := let_arith hxP j.co.p.2
    rw [e1] at q1
    have HE := Hid.of (And.intro e2 (And.intro e3 (And.intro hfit hxP)))
    obtain ⟨Y, hY⟩ : ∃ Y, x * 512 = Y := ⟨_, rfl⟩
    rw [hY] at wx
    have HY := Hid.of hY
    clear hn e1 e2 e3 hfit hxP hx hY j
    go_enter Tryz.func109, Tryz.ntmps109
    go_wp2_with fail
    refine q1.mono ?_
    rintro e w1 ⟨rfl, t1, k1⟩
    have G1 := Hid.of (show HG w X g p v cp H.D M.C X g v (letH H k) S M w1 from HJ0.out.1.own (HJ0.out.1.h.setTab t1 (HJ0.out.1.h.inv.un k) k1) (k1.mono (fun x _ hx => ⟨.tab, trivial, .inr hx⟩)) (fun i hi => hi) HJ0.out.2.2)
    obtain ⟨d0, -, -, -, -⟩ := G1.out.j.h.four
    have q2 := Ar.zero_any w1 p v S (x * 512) 512 G1.out.j.ar HE.out.2.2.1 HJ0.out.2.1
    unfold Ar.DoneR at q2
    rw [HY.out] at q2
    clear q1 t1 k1 c3
    go_wp2_with fail
    refine q2.mono ?_
    rintro e w2 ⟨rfl, r2⟩
    have hl2 : (bput S.B Y (List.replicate 512 0)).length = S.B.length := bput_length _ _ _ (by rw [List.length_replicate, ← HY.out]; exact HE.out.2.2.1)
    obtain ⟨v2, g2⟩ := G1.out.j.arena r2 hl2
    have G2 := Hid.of g2
    obtain ⟨-, f1, -, -, -⟩ := g2.j.h.four
    have q3 := Co.give_any w2 cp M x g2.j.co HE.out.2.2.2
    unfold Co.GiveR at q3
    clear q2 r2 hl2 g2 d0
    go_wp2_with fail
    refine q3.mono ?_
    rintro e w3 ⟨rfl, r3⟩
    have HF := Hid.of (show ∃ v', HG w X g p v cp H.D M.C X g v' (letH H k) (letS H S k) (letM H M k) w3 from by
      rw [HE.out.1, HE.out.2.1, HY.out]
      exact ⟨v2, (G1.out.trans G2.out).trans (G2.out.j.map r3 rfl rfl)⟩)
    clear q3 r3
    go_wp2
    go_end0
    exact ⟨rfl, HF.out⟩
end He
end Go.Proofs.YtnheibcjcgacpaaGreatDoor

/-! The heap package's walks: release, block, Usable. -/
namespace Go.Proofs.YtnheibcjcgacpaaGreatDoor
open Go.RowKit Go.ChangeMaps
namespace He
/-- A heap, its arena's bytes and touches, its map. -/
structure T3 where
  H : HS
  S : Ar.AS
  M : Co.CM
def let3 (t : T3) (k : Int) : T3 := ⟨letH t.H k, letS t.H t.S k, letM t.H t.M k⟩
def letN (t : T3) (b : Nat) : Nat → T3
  | 0 => t
  | n + 1 => let3 (letN t b n) ((b + n : Nat) : Int)
def rel3 (t : T3) (c s : Nat) : T3 := { letN t (Pc.loc c s) (Pc.pgs c) with H := { (letN t (Pc.loc c s) (Pc.pgs c)).H with F := upl (letN t (Pc.loc c s) (Pc.pgs c)).H.F c (Sh.giveS ((letN t (Pc.loc c s) (Pc.pgs c)).H.F c) s) } }
theorem letS_T (H : HS) (S : Ar.AS) (k : Int) : (letS H S k).T.length ≤ S.T.length + 1 := by
  unfold letS
  split
  · omega
  · show (Ar.note S.T _ 512 true).length ≤ _; exact Ar.note_len _ _ _ _
theorem letN_T (t : T3) (b : Nat) : ∀ n, (letN t b n).S.T.length ≤ t.S.T.length + n
  | 0 => Nat.le_refl _
  | n + 1 => by
    have h1 := letN_T t b n
    have h2 := letS_T (letN t b n).H (letN t b n).S ((b + n : Nat) : Int)
    show (letS _ _ _).T.length ≤ _
    omega
theorem letN_D (t : T3) (b : Nat) : ∀ n, (letN t b n).H.D = t.H.D ∧ (letN t b n).H.F = t.H.F ∧ (letN t b n).H.L = t.H.L ∧ (letN t b n).H.W = t.H.W
  | 0 => ⟨rfl, rfl, rfl, rfl⟩
  | n + 1 => letN_D t b n
theorem rel_arith {b i n : Nat} (h : b + n ≤ 6400) (hi : i < n) : wrap64 ((b : Int) + (i : Int)) = ((b + i : Nat) : Int) := Pc.w64' (by omega) (by omega)
def RelR (w : World) (X : HX) (g : Int → Pg.Pla) (p : Ar.Pl) (v : Value) (cp : Co.Pla) (t t' : T3) (e : Ending) (w' : World) : Prop := e = .returned (.tuple #[]) ∧ ∃ v', HG w X g p v cp t.H.D t.M.C X g v' t'.H t'.S t'.M w'
set_option maxRecDepth 100000 in
set_option maxHeartbeats 1000000 in
theorem release_any (w : World) (X : HX) (g : Int → Pg.Pla) (p : Ar.Pl) (v : Value) (cp : Co.Pla) (t : T3) (c s : Nat) (hc : c < 24) (hs : s < Pc.slots c) (j : HJ w X g p v cp t.H t.S t.M) (ht : t.S.T.length + 16 ≤ 1000000000) :
    Calls Tryz.prog 97 #[.pointer (some ⟨X.hb, 0, none⟩), .int .i64 c, .int .i64 s] w (RelR w X g p v cp t (rel3 t c s)) := by
  have q1 := Pc.pages_any w c hc
  have q2 := fun wx => Pc.local_any wx c s hc hs
  have hpr := Pc.pgs_range hc
  have hlr := Pc.loc_range hc hs
  have HRel := Hid.of (show rel3 t c s = { letN t (Pc.loc c s) (Pc.pgs c) with H := { (letN t (Pc.loc c s) (Pc.pgs c)).H with F := upl (letN t (Pc.loc c s) (Pc.pgs c)).H.F c (Sh.giveS ((letN t (Pc.loc c s) (Pc.pgs c)).H.F c) s) } } from rfl)
  have HJ0 := Hid.of (And.intro j (And.intro ht hc))
  generalize rel3 t c s = Rz at HRel ⊢
  generalize Pc.loc c s = b at *
  generalize Pc.pgs c = n at *
  have hbn : b + n ≤ 6400 := by omega
  have hn16 : n ≤ 16 := hpr.2
  have hci : (c : Int) < 24 := by omega
  have hc0 : (0 : Int) ≤ (c : Int) := by omega
  have HB := Hid.of hbn
  clear j ht hpr hlr hs hbn
  go_enter Tryz.func97, Tryz.ntmps97
  go_wp2_with fail
  refine q1.mono ?_
  rintro e w1 ⟨rfl, rfl⟩
  clear q1
  go_wp2_with fail
  go_loopw [9] (fun i wr => ∃ (k : Nat) (v' : Value), k ≤ n ∧ i = .int .i64 k ∧ Hid (HG w X g p v cp t.H.D t.M.C X g v' (letN t b k).H (letN t b k).S (letN t b k).M wr)) (fun i _ => n - (intOf i).toNat)
  case atStart => exact ⟨0, v, by omega, rfl, Hid.of (HG.refl HJ0.out.1 (Keeps.refl _ _))⟩
  case round =>
    obtain ⟨k, v', hk, rfl, HI⟩ := hrel
    by_cases hlt : k < n
    · have hkd : decide ((k : Int) < (n : Int)) = true := by simp; omega
      have wk := rel_arith HB.out hlt
      have hT : (letN t b k).S.T.length ≤ 1000000000 := by have := letN_T t b k; have := HJ0.out.2.1; omega
      have q := let_any wr X g p v' cp (letN t b k).H (letN t b k).S (letN t b k).M ((b + k : Nat) : Int) HI.out.j hT
      unfold LetR at q
      obtain ⟨Y, hY⟩ : ∃ Y, b + k = Y := ⟨_, rfl⟩
      rw [hY] at wk q
      have HY := Hid.of hY
      clear hT hY
      go_wp2_with fail
      refine (q2 _).mono ?_
      rintro e w2 ⟨rfl, rfl⟩
      go_wp2_with fail
      refine q.mono ?_
      rintro e w3 ⟨rfl, v3, g3⟩
      have HF := Hid.of (show HG w X g p v cp t.H.D t.M.C X g v3 (letN t b (k + 1)).H (letN t b (k + 1)).S (letN t b (k + 1)).M w3 from by
        have e : letN t b (k + 1) = let3 (letN t b k) (Y : Int) := by show let3 _ ((b + k : Nat) : Int) = _; rw [HY.out]
        rw [e]
        have hC := HI.out.c
        rw [hC] at g3
        exact HI.out.trans g3)
      clear q g3
      go_wp2
      go_roundw
      case rel => exact ⟨k + 1, v3, by omega, by go_num, HF⟩
      case measure => simp [intOf]; omega
    · obtain rfl : k = n := by omega
      have hkd : decide ((k : Int) < (k : Int)) = false := by simp
      have HI2 := Hid.of HI.out.j
      have c4 := HI.out.j.h.slotCell HJ0.out.2.2
      have qg := Sh.give_any wr (X.sb c) (X.sv c) ((letN t b k).H.F c) s (HI.out.j.h.slot c HJ0.out.2.2)
      clear q2 hlt hk
      go_wp2_with fail
      refine qg.mono ?_
      rintro e w2 ⟨rfl, s2, k2⟩
      have HF := Hid.of (show ∃ v', HG w X g p v cp t.H.D t.M.C X g v' Rz.H Rz.S Rz.M w2 from by
        rw [HRel.out]
        refine ⟨v', ?_⟩
        have g2 := HI2.out.own (HI2.out.h.setSlot HJ0.out.2.2 s2 k2 (Co.giveS_len _ _)) (k2.mono (fun x _ hx => ⟨.slot c, HJ0.out.2.2, hx⟩)) (fun i hi => hi) HI2.out.pg
        rw [HI.out.c] at g2
        exact HI.out.trans g2)
      clear qg s2 k2
      go_wp2
      go_end0
      exact ⟨rfl, HF.out⟩
/-- The block that begins at an address, if it is had. -/
def hasB (H : HS) (v : Int) (k : Int) : Bool := match eget H.D v with
  | some P => Pg.has P k
  | none => false
def hadB (H : HS) (c s k : Nat) : Bool := !(H.F c).getD s false && (decide (8 ≤ c) || hasB H (Pc.loc c s) k)
def blk (H : HS) (a : Int) : Option (Nat × Nat × Nat) := match Pc.findR a with
  | some (c, s, k) => if hadB H c s k then some (c, s, k) else none
  | none => none
def blkV (r : Option (Nat × Nat × Nat)) : Value := match r with
  | some (c, s, k) => .tuple #[.int .i64 c, .int .i64 s, .int .i64 k, .int .i64 0]
  | none => .tuple #[.int .i64 0, .int .i64 0, .int .i64 0, .int .i64 13]
theorem findR_some {a : Int} {c s k : Nat} (h : Pc.findR a = some (c, s, k)) : c < 24 ∧ s < Pc.slots c ∧ k < Pc.nb c ∧ (Pc.addr c s k : Int) = a := by
  unfold Pc.findR at h
  split at h
  · rename_i hb
    obtain ⟨h0, h1, h2, h3, h4, h5⟩ := hb
    obtain ⟨hc, -, -⟩ := Pc.find_arith h1 h2
    injection h with h
    injection h with e1 h
    injection h with e2 e3
    subst e1 e2 e3
    exact ⟨hc, h3, h4, by rw [h5]; omega⟩
  · cases h
theorem dm_get (g : Int → Pg.Pla) (D : List (Int × Pg.PG)) (v : Int) : eget (dm g D) v = (eget D v).map (fun _ => ptr (g v).b) := by
  unfold dm
  induction D with
  | nil => rfl
  | cons x D ih =>
    rw [List.map_cons, eget_cons, eget_cons, ih]
    by_cases e : x.1 = v
    · rw [if_pos e, if_pos e, e]; rfl
    · rw [if_neg e, if_neg e]
/-- The page of a local page, or none. -/
def pgv (g : Int → Pg.Pla) (D : List (Int × Pg.PG)) (v : Int) : Value := match eget D v with
  | some _ => ptr (g v).b
  | none => .pointer none
theorem HAt.look {w : World} {X : HX} {g : Int → Pg.Pla} {a m : Nat} {H : HS} (h : HAt w X g a m H) (v : Int) : (Instr.lookup 153 (.map (some X.db)) (.int .i64 v) false).run Tryz.prog w = .ok (pgv g H.D v) w := by
  have := h.small.look (P := Tryz.prog) (t := 153) _ Tryz.underlying153 Tryz.underlying3 v (z := .pointer none) (by kernel_rfl)
  rw [this, dm_get]
  unfold pgv
  cases eget H.D v <;> rfl
theorem HAt.hasB {w : World} {X : HX} {g : Int → Pg.Pla} {a m : Nat} {H : HS} (h : HAt w X g a m H) (v k : Int) : Calls Tryz.prog 94 #[pgv g H.D v, .int .i64 k] w fun e w' => e = .returned (.bool (hasB H v k)) ∧ w' = w := by
  unfold pgv He.hasB
  cases hP : eget H.D v with
  | none => exact (Pg.has_nil w k).mono (fun e w' h => ⟨h.1, h.2.symm⟩)
  | some P => exact (Pg.has_any w (g v) a P k (h.page v P hP)).mono (fun e w' h => ⟨h.1, h.2.symm⟩)
set_option maxRecDepth 100000 in
set_option maxHeartbeats 2000000 in
theorem block_any (w : World) (X : HX) (g : Int → Pg.Pla) (p : Ar.Pl) (v : Value) (cp : Co.Pla) (H : HS) (S : Ar.AS) (M : Co.CM) (a : Int) (ha : -9223372036854775808 ≤ a ∧ a ≤ 9223372036854775807) (j : HJ w X g p v cp H S M) :
    Calls Tryz.prog 95 #[.pointer (some ⟨X.hb, 0, none⟩), .int .i64 a] w fun e w' => e = .returned (blkV (blk H a)) ∧ Keeps (fun _ => False) w w' := by
  have q1 := Pc.find_any w a ha
  have HJ0 := Hid.of j
  clear j ha
  cases hf : Pc.findR a with
  | none =>
    have e1 : blk H a = none := by unfold blk; rw [hf]
    rw [hf] at q1
    rw [e1]
    unfold Pc.findV at q1
    unfold blkV
    dsimp only at q1 ⊢
    clear hf e1
    go_enter Tryz.func95, Tryz.ntmps95
    go_wp2_with fail
    refine q1.mono ?_
    rintro e w1 ⟨rfl, k1⟩
    have HKF := Hid.of k1
    have H1 := Hid.of (HJ0.out.old k1)
    skip
    clear q1 k1
    go_wp2_with fail
    go_quiet (fail)
    go_wp2
    refine bodyPost_ret (v := .tuple #[.int .i64 0, .int .i64 0, .int .i64 0, .int .i64 13]) ?_ ?_ ⟨?_, HKF.out.drewN _⟩
    · simp [results, Tryz.results95, go_sem]
    · rfl
    · rfl
  | some r =>
    obtain ⟨c, s, k⟩ := r
    obtain ⟨hc, hs, hk, -⟩ := findR_some hf
    have hc24 : (c : Int) < 24 := by omega
    have hc0 : (0 : Int) ≤ (c : Int) := by omega
    rw [hf] at q1
    unfold Pc.findV at q1
    dsimp only at q1
    cases hfr : (H.F c).getD s false with
    | true =>
      have e1 : blk H a = none := by
        have hd : hadB H c s k = false := by unfold hadB; rw [hfr]; rfl
        unfold blk; rw [hf]; dsimp only; rw [hd]; rfl
      rw [e1]
      unfold blkV
      dsimp only
      clear hf e1
      go_enter Tryz.func95, Tryz.ntmps95
      go_wp2_with fail
      refine q1.mono ?_
      rintro e w1 ⟨rfl, k1⟩
      have HKF := Hid.of k1
      have H1 := Hid.of (HJ0.out.old k1)
      have c4 := H1.out.h.slotCell hc
      have t1 := fun n => (Sh.taken_any (w1.drewN n) (X.sb c) (X.sv c) (H.F c) s ((H1.out.h.slot c hc).old ((Keeps.refl _ _).drewN n))).mono (fun e w' (h : _ ∧ w1.drewN n = w') => And.intro h.1 h.2.symm)
      rw [Sh.taken_dec (H.F c) s (by rw [H1.out.h.slen c hc]; exact hs)] at t1
      rw [hfr, Bool.not_true] at t1
      have HT := Hid.of t1
      clear t1
      clear q1 k1
      go_wp2_with fail
      go_quiet (first | (go_at_call 92; exact Calls.quiet_of_same (HT.out _)))
      go_wp2
      refine bodyPost_ret (v := .tuple #[.int .i64 0, .int .i64 0, .int .i64 0, .int .i64 13]) ?_ ?_ ⟨?_, HKF.out.drewN _⟩
      · simp [results, Tryz.results95, go_sem]
      · rfl
      · rfl
    | false =>
      by_cases h8 : c < 8
      · have t8 : decide ((c : Int) < 8) = true := by simp; omega
        have t8' : decide (c < 8) = true := by simpa using h8
        have e0 : blk H a = if hasB H (Pc.loc c s) k then some (c, s, k) else none := by
          have hd : hadB H c s k = hasB H (Pc.loc c s) k := by unfold hadB; rw [hfr, show decide (8 ≤ c) = false by simp; omega]; rfl
          unfold blk; rw [hf]; dsimp only; rw [hd]
        cases hhb : hasB H (Pc.loc c s) k with
        | false =>
          rw [hhb] at e0
          rw [e0]
          unfold blkV
          clear hf e0
          go_enter Tryz.func95, Tryz.ntmps95
          go_wp2_with fail
          refine q1.mono ?_
          rintro e w1 ⟨rfl, k1⟩
          have HKF := Hid.of k1
          have H1 := Hid.of (HJ0.out.old k1)
          have c4 := H1.out.h.slotCell hc
          have t1 := fun n => (Sh.taken_any (w1.drewN n) (X.sb c) (X.sv c) (H.F c) s ((H1.out.h.slot c hc).old ((Keeps.refl _ _).drewN n))).mono (fun e w' (h : _ ∧ w1.drewN n = w') => And.intro h.1 h.2.symm)
          rw [Sh.taken_dec (H.F c) s (by rw [H1.out.h.slen c hc]; exact hs)] at t1
          rw [hfr, Bool.not_false] at t1
          have HT := Hid.of t1
          clear t1
          obtain ⟨-, -, -, -, c36⟩ := H1.out.h.four
          have t2 := fun n => (Pc.local_any (w1.drewN n) c s hc hs).mono (fun e w' (h : _ ∧ w1.drewN n = w') => And.intro h.1 h.2.symm)
          have t3 := fun n => (H1.out.h.old ((Keeps.refl _ _).drewN n)).hasB (Pc.loc c s) k
          rw [hhb] at t3
          have lk := fun n => (H1.out.h.old ((Keeps.refl _ _).drewN n)).look (Pc.loc c s)
          have HT2 := Hid.of (And.intro t2 t3)
          clear t2 t3
          clear q1 k1
          go_wp2_with fail
          go_quiet (first | (go_at_call 92; exact Calls.quiet_of_same (HT.out _)) | (go_at_call 88; exact Calls.quiet_of_same (HT2.out.1 _)) | (go_at_call 94; exact Calls.quiet_of_same (HT2.out.2 _)))
          go_wp2
          refine bodyPost_ret (v := .tuple #[.int .i64 0, .int .i64 0, .int .i64 0, .int .i64 13]) ?_ ?_ ⟨?_, HKF.out.drewN _⟩
          · simp [results, Tryz.results95, go_sem]
          · rfl
          · rfl
        | true =>
          rw [hhb] at e0
          rw [e0]
          unfold blkV
          clear hf e0
          go_enter Tryz.func95, Tryz.ntmps95
          go_wp2_with fail
          refine q1.mono ?_
          rintro e w1 ⟨rfl, k1⟩
          have HKF := Hid.of k1
          have H1 := Hid.of (HJ0.out.old k1)
          have c4 := H1.out.h.slotCell hc
          have t1 := fun n => (Sh.taken_any (w1.drewN n) (X.sb c) (X.sv c) (H.F c) s ((H1.out.h.slot c hc).old ((Keeps.refl _ _).drewN n))).mono (fun e w' (h : _ ∧ w1.drewN n = w') => And.intro h.1 h.2.symm)
          rw [Sh.taken_dec (H.F c) s (by rw [H1.out.h.slen c hc]; exact hs)] at t1
          rw [hfr, Bool.not_false] at t1
          have HT := Hid.of t1
          clear t1
          obtain ⟨-, -, -, -, c36⟩ := H1.out.h.four
          have t2 := fun n => (Pc.local_any (w1.drewN n) c s hc hs).mono (fun e w' (h : _ ∧ w1.drewN n = w') => And.intro h.1 h.2.symm)
          have t3 := fun n => (H1.out.h.old ((Keeps.refl _ _).drewN n)).hasB (Pc.loc c s) k
          rw [hhb] at t3
          have lk := fun n => (H1.out.h.old ((Keeps.refl _ _).drewN n)).look (Pc.loc c s)
          have HT2 := Hid.of (And.intro t2 t3)
          clear t2 t3
          clear q1 k1
          go_wp2_with fail
          go_quiet (first | (go_at_call 92; exact Calls.quiet_of_same (HT.out _)) | (go_at_call 88; exact Calls.quiet_of_same (HT2.out.1 _)) | (go_at_call 94; exact Calls.quiet_of_same (HT2.out.2 _)))
          go_wp2
          refine bodyPost_ret (v := .tuple #[.int .i64 c, .int .i64 s, .int .i64 k, .int .i64 0]) ?_ ?_ ⟨?_, HKF.out.drewN _⟩
          · simp [results, Tryz.results95, go_sem]
          · rfl
          · rfl
      · have t8 : decide ((c : Int) < 8) = false := by simp; omega
        have t8' : decide (c < 8) = false := by simpa using h8
        have h88 : 8 ≤ c := by omega
        have e0 : blk H a = some (c, s, k) := by
          have hd : hadB H c s k = true := by unfold hadB; rw [hfr, show decide (8 ≤ c) = true by simpa using h88]; rfl
          unfold blk; rw [hf]; dsimp only; rw [hd]; rfl
        rw [e0]
        unfold blkV
        dsimp only
        clear hf e0
        go_enter Tryz.func95, Tryz.ntmps95
        go_wp2_with fail
        refine q1.mono ?_
        rintro e w1 ⟨rfl, k1⟩
        have HKF := Hid.of k1
        have H1 := Hid.of (HJ0.out.old k1)
        have c4 := H1.out.h.slotCell hc
        have t1 := fun n => (Sh.taken_any (w1.drewN n) (X.sb c) (X.sv c) (H.F c) s ((H1.out.h.slot c hc).old ((Keeps.refl _ _).drewN n))).mono (fun e w' (h : _ ∧ w1.drewN n = w') => And.intro h.1 h.2.symm)
        rw [Sh.taken_dec (H.F c) s (by rw [H1.out.h.slen c hc]; exact hs)] at t1
        rw [hfr, Bool.not_false] at t1
        have HT := Hid.of t1
        clear t1
        clear q1 k1
        go_wp2_with fail
        go_quiet (first | (go_at_call 92; exact Calls.quiet_of_same (HT.out _)))
        go_wp2
        refine bodyPost_ret (v := .tuple #[.int .i64 c, .int .i64 s, .int .i64 k, .int .i64 0]) ?_ ?_ ⟨?_, HKF.out.drewN _⟩
        · simp [results, Tryz.results95, go_sem]
        · rfl
        · rfl
end He
end Go.Proofs.YtnheibcjcgacpaaGreatDoor

/-! The heap package's walks: Usable, hold. -/
namespace Go.Proofs.YtnheibcjcgacpaaGreatDoor
open Go.RowKit Go.ChangeMaps
namespace He
def usableR (H : HS) (a : Int) : Int × Int := match blk H a with
  | some (c, _, _) => ((Pc.un c : Int), 0)
  | none => (0, 13)
theorem blk_kind {H : HS} {a : Int} {c s k : Nat} (h : blk H a = some (c, s, k)) : Pc.findR a = some (c, s, k) ∧ hadB H c s k = true := by
  unfold blk at h
  cases hf : Pc.findR a with
  | none => rw [hf] at h; cases h
  | some r =>
    obtain ⟨c', s', k'⟩ := r
    rw [hf] at h
    dsimp only at h
    split at h
    · rename_i hh
      injection h with h
      injection h with e1 h
      injection h with e2 e3
      subst e1 e2 e3
      exact ⟨rfl, hh⟩
    · cases h
set_option maxRecDepth 100000 in
set_option maxHeartbeats 1000000 in
theorem usable_any (w : World) (X : HX) (g : Int → Pg.Pla) (p : Ar.Pl) (v : Value) (cp : Co.Pla) (H : HS) (S : Ar.AS) (M : Co.CM) (a : Int) (ha : -9223372036854775808 ≤ a ∧ a ≤ 9223372036854775807) (j : HJ w X g p v cp H S M) :
    Calls Tryz.prog 22 #[.pointer (some ⟨X.hb, 0, none⟩), .int .i64 a] w fun e w' => e = .returned (.tuple #[.int .i64 (usableR H a).1, .int .i64 (usableR H a).2]) ∧ Keeps (fun _ => False) w w' := by
  have q1 := block_any w X g p v cp H S M a ha j
  unfold usableR
  cases hb : blk H a with
  | none =>
    rw [hb] at q1
    unfold blkV at q1
    dsimp only at q1 ⊢
    clear hb j
    go_enter Tryz.func22, Tryz.ntmps22
    go_wp2_with fail
    refine q1.mono ?_
    rintro e w1 ⟨rfl, k1⟩
    have HK := Hid.of k1
    clear q1 k1
    go_wp2
    go_ret2
    exact ⟨rfl, HK.out⟩
  | some r =>
    obtain ⟨c, s, k⟩ := r
    rw [hb] at q1
    unfold blkV at q1
    dsimp only at q1 ⊢
    have hc := (findR_some (blk_kind hb).1).1
    have q2 := fun wx => Pc.unit_any wx c hc
    clear hb j
    go_enter Tryz.func22, Tryz.ntmps22
    go_wp2_with fail
    refine q1.mono ?_
    rintro e w1 ⟨rfl, k1⟩
    have HK := Hid.of k1
    clear q1 k1
    go_wp2_with fail
    refine (q2 _).mono ?_
    rintro e w2 ⟨rfl, rfl⟩
    clear q2
    go_wp2
    go_ret2
    exact ⟨rfl, HK.out⟩
/-- A page is taken for a local page. -/
def take1 (t : T3) (k : Int) : T3 := ⟨{ t.H with E := (Tab.mapS t.H.E t.H.G k (Co.takeE t.M t.H.W).1).1, G := (Tab.mapS t.H.E t.H.G k (Co.takeE t.M t.H.W).1).2 }, t.S, Co.take t.M t.H.W⟩
def takeN (t : T3) (b : Nat) : Nat → T3
  | 0 => t
  | n + 1 => take1 (takeN t b n) ((b + n : Nat) : Int)
theorem takeN_same (t : T3) (b : Nat) : ∀ n, (takeN t b n).H.D = t.H.D ∧ (takeN t b n).H.F = t.H.F ∧ (takeN t b n).H.L = t.H.L ∧ (takeN t b n).H.W = t.H.W ∧ (takeN t b n).S = t.S
  | 0 => ⟨rfl, rfl, rfl, rfl, rfl⟩
  | n + 1 => by
    have ih := takeN_same t b n
    unfold takeN take1
    exact ih
def slotT (t : T3) (c s : Nat) : T3 := { t with H := { t.H with F := upl t.H.F c ((t.H.F c).set s false) } }
def holdOk (t : T3) (c : Nat) : Bool := decide (0 ≤ Sh.low (t.H.F c) ∧ Pc.pgs c ≤ Co.nf t.M t.H.W)
def holdT (t : T3) (c : Nat) : T3 := if holdOk t c then takeN (slotT t c (Sh.low (t.H.F c)).toNat) (Pc.loc c (Sh.low (t.H.F c)).toNat) (Pc.pgs c) else t
def holdS (t : T3) (c : Nat) : Int := if holdOk t c then Sh.low (t.H.F c) else 0
theorem take_CP (M : Co.CM) (W : List Int) : (Co.take M W).C = M.C ∧ (Co.take M W).P = M.P := by unfold Co.take; split <;> exact ⟨rfl, rfl⟩
theorem takeE_range {M : Co.CM} {W : List Int} (hl : ∀ i, i < M.C → (M.F i).length = M.P / M.C) (hp : M.P = M.P / M.C * M.C) (h1 : 1 ≤ M.P) : 0 ≤ (Co.takeE M W).1 ∧ (Co.takeE M W).1 < M.P := by
  have := Co.lo_range (Co.lo_best M W) hl hp
  unfold Co.takeE
  split
  · simp only; omega
  · simp only; omega
theorem fnd_map {E G : Tab.Prs} {v p : Int} (k : Int) : Tab.fnd (Tab.mapS E G v p).1 k = p ∨ Tab.fnd (Tab.mapS E G v p).1 k = Tab.fnd E k := by
  unfold Tab.mapS
  split
  · show Tab.fnd (eset E v p) k = p ∨ _
    unfold Tab.fnd
    rw [eget_eset]
    split
    · exact .inl rfl
    · exact .inr rfl
  · exact .inr rfl
/-- One page more. -/
theorem HG.take1 {w w1 w2 : World} {X : HX} {g : Int → Pg.Pla} {p : Ar.Pl} {v : Value} {cp : Co.Pla} {t : T3} {k : Int} (j : HJ w X g p v cp t.H t.S t.M) (r : Co.R w cp (Co.take t.M t.H.W) w1) (tb : Tab.At w2 X.tb X.tm X.tn (Tab.mapS t.H.E t.H.G k (Co.takeE t.M t.H.W).1).1 (Tab.mapS t.H.E t.H.G k (Co.takeE t.M t.H.W).1).2) (k2 : Keeps (fun x => x = X.tm ∨ x = X.tn) w1 w2) :
    HG w X g p v cp t.H.D t.M.C X g v (He.take1 t k).H (He.take1 t k).S (He.take1 t k).M w2 := by
  obtain ⟨e1, e2⟩ := take_CP t.M t.H.W
  have g1 := j.map r e1 e2
  have hr := takeE_range (W := t.H.W) j.co.len j.co.pc j.co.p.1
  have g2 := g1.j.own (g1.j.h.setTab tb (j.h.inv.map k _) k2) (k2.mono (fun x _ hx => ⟨.tab, trivial, .inr hx⟩)) (fun i hi => hi) (fun i => by
    rw [e2]
    rcases fnd_map (E := t.H.E) (G := t.H.G) (v := k) (p := (Co.takeE t.M t.H.W).1) i with e | e
    · show Tab.fnd (Tab.mapS t.H.E t.H.G k (Co.takeE t.M t.H.W).1).1 i < _; rw [e]; exact hr.2
    · show Tab.fnd (Tab.mapS t.H.E t.H.G k (Co.takeE t.M t.H.W).1).1 i < _; rw [e]; exact j.pg i)
  rw [e1] at g2
  exact g1.trans g2
theorem rel_arith2 {b i n : Nat} (h : b + n ≤ 6400) (hi : i < n) : IntKind.i64.wrap ((b : Int) + (i : Int)) = ((b + i : Nat) : Int) := by
  rw [show (b : Int) + (i : Int) = ((b + i : Nat) : Int) by omega]; exact IntWalk.i64_in _ (by omega)
def HoldR (w : World) (X : HX) (g : Int → Pg.Pla) (p : Ar.Pl) (v : Value) (cp : Co.Pla) (t t' : T3) (s : Int) (ok : Bool) (e : Ending) (w' : World) : Prop := e = .returned (.tuple #[.int .i64 s, .bool ok]) ∧ HG w X g p v cp t.H.D t.M.C X g v t'.H t'.S t'.M w'
set_option maxRecDepth 100000 in
set_option maxHeartbeats 2000000 in
theorem hold_any (w : World) (X : HX) (g : Int → Pg.Pla) (p : Ar.Pl) (v : Value) (cp : Co.Pla) (t : T3) (c : Nat) (hc : c < 24) (j : HJ w X g p v cp t.H t.S t.M) (hW : t.H.W.length ≤ 1000000) :
    Calls Tryz.prog 82 #[.pointer (some ⟨X.hb, 0, none⟩), .int .i64 c] w (HoldR w X g p v cp t (holdT t c) (holdS t c) (holdOk t c)) := by
  have q1 := Sh.lowest_any w (X.sb c) (X.sv c) (t.H.F c) (j.h.slot c hc) j.T
  have q2 := fun wx => Pc.pages_any wx c hc
  have c4 := j.h.slotCell hc
  obtain ⟨-, c1, c2, c3, -⟩ := j.h.four
  obtain ⟨A, cap, hu, -, -, hrd⟩ := j.h.win.rd
  rw [hu] at c2
  have hpr := Pc.pgs_range hc
  have hci : (c : Int) < 24 := by omega
  have hc0 : (0 : Int) ≤ (c : Int) := by omega
  have HJ0 := Hid.of (And.intro j (And.intro hW (And.intro hrd (And.intro hc hu))))
  have e3 : holdT t c = if holdOk t c then takeN (slotT t c (Sh.low (t.H.F c)).toNat) (Pc.loc c (Sh.low (t.H.F c)).toNat) (Pc.pgs c) else t := rfl
  have e4 : holdS t c = if holdOk t c then Sh.low (t.H.F c) else 0 := rfl
  have e5 : holdOk t c = decide (0 ≤ Sh.low (t.H.F c) ∧ Pc.pgs c ≤ Co.nf t.M t.H.W) := rfl
  rcases Co.low_frees (S := t.H.F c) with ⟨f1, f2⟩ | ⟨s, r, f1, f2⟩
  · have ok0 : holdOk t c = false := by rw [e5, f2]; simp
    rw [ok0] at e3 e4
    rw [f2] at q1
    rw [e3, e4, ok0]
    clear e3 e4 e5 ok0 j hW hrd f1 f2
    go_enter Tryz.func82, Tryz.ntmps82
    go_wp2_with fail
    refine q1.mono ?_
    rintro e w1 ⟨rfl, rfl⟩
    go_wp2_with fail
    refine (q2 _).mono ?_
    rintro e w2 ⟨rfl, rfl⟩
    clear q1 q2
    go_wp2_with fail
    go_quiet (fail)
    go_wp2
    go_ret2
    exact ⟨rfl, HG.refl HJ0.out.1 ((Keeps.refl _ _).drewN _)⟩
  · have hs := (Sh.mem_frees.1 (show s ∈ Sh.frees (t.H.F c) by rw [f1]; exact List.mem_cons_self))
    rw [j.h.slen c hc] at hs
    rw [f2] at q1 e3 e4 e5
    rw [Int.toNat_natCast] at e3
    have q3 := Co.free_any w.drew cp t.M A cap t.H.W _ (j.co.old ((Keeps.refl _ _).drew)) rfl (hrd.old ((Keeps.refl _ _).drew)) hW
    obtain ⟨N, hN⟩ : ∃ N, Co.nf t.M t.H.W = N := ⟨_, rfl⟩
    rw [hN] at q3 e5
    have t1 : decide ((s : Int) < 0) = false := by simp
    by_cases hok : Pc.pgs c ≤ N
    · have ok1 : holdOk t c = true := by rw [e5]; simp; exact hok
      rw [ok1] at e3 e4
      rw [e3, e4, ok1]
      have q4 := fun wx (hx : Sh.At wx (X.sb c) (X.sv c) (t.H.F c)) => Sh.takeAt_any wx (X.sb c) (X.sv c) (t.H.F c) s hx (by rw [HJ0.out.1.h.slen c hc]; exact hs.1) hs.2
      have q5 := fun wx => Pc.local_any wx c s hc hs.1
      have hlr := Pc.loc_range hc hs.1
      have hT1 : { t with H := { t.H with F := upl t.H.F c ((t.H.F c).set s false) } } = slotT t c s := rfl
      have HT1 := Hid.of hT1
      have t2 : decide ((N : Int) < (Pc.pgs c : Int)) = false := by simp; omega
      have t2' : decide (N < Pc.pgs c) = false := by simp; omega
      simp only [if_true]
      generalize Pc.loc c s = b at *
      generalize Pc.pgs c = n at *
      have hbn : b + n ≤ 6400 := by omega
      have hn16 : n ≤ 16 := hpr.2
      have HB := Hid.of (And.intro hbn (And.intro hs.1 hn16))
      obtain ⟨L, hL⟩ : ∃ L, t.H.W.length = L := ⟨_, rfl⟩
      rw [hL] at c2 q3 hu
      have HL := Hid.of (And.intro hL hu)
      clear e3 e4 e5 ok1 j hrd f1 f2 hok hs hW hlr hbn hT1 hL hu hN
      go_enter Tryz.func82, Tryz.ntmps82
      go_wp2_with fail
      refine q1.mono ?_
      rintro e w1 ⟨rfl, rfl⟩
      go_wp2_with fail
      refine (q2 _).mono ?_
      rintro e w2 ⟨rfl, rfl⟩
      clear q1 q2
      go_wp2_with fail
      go_region_held3 (fun wx => wx.cell? ⟨X.hb, 1, none⟩ = some (.pointer (some ⟨cp.m, 0, none⟩)) ∧ wx.cell? ⟨X.hb, 2, none⟩ = some (.slice A L cap))
        (first | exact ⟨c1, c2⟩ | exact ⟨d1, d2⟩)
        (first | (go_at_call 38; refine q3.mono ?_; clear q3; rintro e w3 ⟨rfl, k3⟩; have d1 := keep_cell k3.of_drew (fun x => x) c1; have d2 := keep_cell k3.of_drew (fun x => x) c2))
      have J3 := Hid.of (HJ0.out.1.old k3.of_drew)
      have HK3 := Hid.of k3.of_drew
      have d4 := J3.out.h.slotCell hc
      have q6 := q4 w3 (J3.out.h.slot c hc)
      clear k3 d1 d2 q4 c1 c2 c3 c4
      go_wp2_with fail
      refine q6.mono ?_
      rintro e w4 ⟨rfl, s4, k4⟩
      have G4 := Hid.of (show HG w X g p v cp t.H.D t.M.C X g v (slotT t c s).H (slotT t c s).S (slotT t c s).M w4 from
        (HG.refl HJ0.out.1 HK3.out).trans (J3.out.own (J3.out.h.setSlot hc s4 k4 (by simp)) (k4.mono (fun x _ hx => ⟨.slot c, hc, hx⟩)) (fun i hi => hi) J3.out.pg))
      have HW4 := Hid.of (show (slotT t c s).H.W = t.H.W from rfl)
      generalize slotT t c s = t1 at *
      clear q6 s4 k4 d4 J3 HK3 HT1
      go_wp2_with fail
      go_loopw [44] (fun i wr => ∃ (k : Nat), k ≤ n ∧ i = .int .i64 k ∧ Hid (HG w X g p v cp t.H.D t.M.C X g v (takeN t1 b k).H (takeN t1 b k).S (takeN t1 b k).M wr)) (fun i _ => n - (intOf i).toNat)
      case atStart => exact ⟨0, by omega, rfl, G4⟩
      case round =>
        obtain ⟨k, hk, rfl, HI⟩ := hrel
        by_cases hlt : k < n
        · have hkd : decide ((k : Int) < (n : Int)) = true := by simp; omega
          have wk := rel_arith HB.out.1 hlt
          have wk2 := rel_arith2 HB.out.1 hlt
          have hWk : (takeN t1 b k).H.W = t.H.W := (takeN_same t1 b k).2.2.2.1.trans HW4.out
          obtain ⟨-, c1, c2, c3, -⟩ := HI.out.j.h.four
          rw [HL.out.2] at c2
          have hrd := HJ0.out.2.2.1.keep HI.out.keeps
          have hrdw := HI.out.j.h.win.rd
          obtain ⟨A', cap', hu', -, -, hr'⟩ := hrdw
          rw [HL.out.2, hWk, HL.out.1] at hu'
          injection hu' with i1 i2 i3
          subst i1
          have qt := Co.take_any wr.drew cp (takeN t1 b k).M A cap (takeN t1 b k).H.W L (HI.out.j.co.old ((Keeps.refl _ _).drew)) (HI.out.j.T.old ((Keeps.refl _ _).drew)) (by rw [hWk]; exact HL.out.1) (hr'.old ((Keeps.refl _ _).drew)) (by have := HJ0.out.2.1; have := HL.out.1; omega)
          unfold Co.TakeR at qt
          have qm := fun wx (k2 : Keeps (Co.Fp cp (takeN t1 b k).M.C) wr wx) (x : Int) => Tab.map_any wx X.tb X.tm X.tn (takeN t1 b k).H.E (takeN t1 b k).H.G ((b + k : Nat) : Int) x (HI.out.j.h.tab.keep k2 (fun e => HI.out.j.hc _ ⟨.tab, trivial, .inl rfl⟩ e) (fun e => HI.out.j.hc _ ⟨.tab, trivial, .inr (.inl rfl)⟩ e) (fun e => HI.out.j.hc _ ⟨.tab, trivial, .inr (.inr rfl)⟩ e))
          have HNB := Hid.of (show ¬ Co.Fp cp (takeN t1 b k).M.C X.hb from fun e => HI.out.j.hc _ ⟨.box, trivial, rfl⟩ e)
          have HTC := Hid.of (take_CP (takeN t1 b k).M (takeN t1 b k).H.W)
          have HSt := Hid.of (show takeN t1 b (k + 1) = take1 (takeN t1 b k) ((b + k : Nat) : Int) from rfl)
          have HI2 := Hid.of HI.out
          obtain ⟨t3, ht3⟩ : ∃ t3, takeN t1 b (k + 1) = t3 := ⟨_, rfl⟩
          rw [ht3] at HSt
          have HT3 := Hid.of ht3
          clear ht3
          generalize takeN t1 b k = t2 at *
          obtain ⟨Y, hY⟩ : ∃ Y, b + k = Y := ⟨_, rfl⟩
          rw [hY] at wk wk2 qm HSt
          clear hrd hr' i2 i3 hWk hY HI
          go_wp2_with fail
          go_region_held3 (fun wx => wx.cell? ⟨X.hb, 1, none⟩ = some (.pointer (some ⟨cp.m, 0, none⟩)) ∧ wx.cell? ⟨X.hb, 2, none⟩ = some (.slice A L cap))
            (first | exact ⟨c1, c2⟩ | exact ⟨d1, d2⟩)
            (first | (go_at_call 131; refine qt.mono ?_; clear qt; rintro e w5 ⟨rfl, a5, k5'⟩; have k5 : Keeps (Co.Fp cp t2.M.C) wr w5 := (by rw [← HTC.out.1]; exact k5'.of_drew); have d1 := keep_cell k5 HNB.out c1; have d2 := keep_cell k5 HNB.out c2))
          have d3 := keep_cell k5 HNB.out c3
          have HR5 := Hid.of (show Co.R wr cp (Co.take t2.M t2.H.W) w5 from ⟨a5, by rw [HTC.out.1]; exact k5⟩)
          have q7 := qm w5.drew k5.drew (Co.takeE t2.M t2.H.W).1
          have q8 := q5 w5.drew
          clear qm d1 d2 c1 c2 c3 a5 k5 k5'
          have HQ5 := Hid.of q5
          have HTB := Hid.of (show ¬ (X.hb = X.tm ∨ X.hb = X.tn) from fun e => by
            have ha := HI2.out.j.h.apart .box .tab trivial trivial (by simp) X.hb rfl
            rcases e with e | e
            · exact ha (.inr (.inl e))
            · exact ha (.inr (.inr e)))
          clear q5
          go_wp2_with fail
          go_region_held3 (fun wx => wx.cell? ⟨X.hb, 3, none⟩ = some (.pointer (some ⟨X.tb, 0, none⟩)))
            (first | exact d3 | exact f3)
            (first
              | (go_at_call 88; refine q8.mono ?_; clear q8; rintro e w6 ⟨rfl, rfl⟩)
              | (go_at_call 181; refine q7.mono ?_; clear q7; rintro e w7 ⟨rfl, t7, k7'⟩; have k7 := k7'.of_drew; have f3 := keep_cell k7 HTB.out d3))
          have HF := Hid.of (show HG w X g p v cp t.H.D t.M.C X g v t3.H t3.S t3.M w7 from by
            rw [HSt.out]
            have g7 := HG.take1 HI2.out.j HR5.out t7 k7
            rw [HI2.out.c] at g7
            exact HI2.out.trans g7)
          have q5 := HQ5.out
          clear t7 k7 k7' f3 d3
          go_wp2
          go_roundw
          case rel => exact ⟨k + 1, by omega, by go_num, by rw [HT3.out]; exact HF⟩
          case measure => simp [intOf]; omega
        · obtain rfl : k = n := by omega
          have hkd : decide ((k : Int) < (k : Int)) = false := by simp
          have HF := Hid.of HI.out
          clear HI hlt hk
          go_wp2
          go_ret2
          exact ⟨rfl, HF.out⟩
    · have ok0 : holdOk t c = false := by rw [e5]; simp; omega
      rw [ok0] at e3 e4
      rw [e3, e4, ok0]
      have t2 : decide ((N : Int) < (Pc.pgs c : Int)) = true := by simp; omega
      have t2' : decide (N < Pc.pgs c) = true := by simp; omega
      generalize Pc.pgs c = n at *
      generalize t.H.W.length = L at *
      clear e3 e4 e5 ok0 j hrd f1 f2 hok hs hW
      go_enter Tryz.func82, Tryz.ntmps82
      go_wp2_with fail
      refine q1.mono ?_
      rintro e w1 ⟨rfl, rfl⟩
      go_wp2_with fail
      refine (q2 _).mono ?_
      rintro e w2 ⟨rfl, rfl⟩
      clear q1 q2
      go_wp2_with fail
      go_region_held3 (fun wx => wx.cell? ⟨X.hb, 1, none⟩ = some (.pointer (some ⟨cp.m, 0, none⟩)) ∧ wx.cell? ⟨X.hb, 2, none⟩ = some (.slice A L cap))
        (first | exact ⟨c1, c2⟩ | exact ⟨d1, d2⟩)
        (first | (go_at_call 38; refine q3.mono ?_; clear q3; rintro e w3 ⟨rfl, k3⟩; have d1 := keep_cell k3.of_drew (fun x => x) c1; have d2 := keep_cell k3.of_drew (fun x => x) c2))
      have HK := Hid.of k3.of_drew
      clear k3 d1 d2
      go_wp2
      go_ret2
      exact ⟨rfl, HG.refl HJ0.out.1 HK.out⟩
end He
end Go.Proofs.YtnheibcjcgacpaaGreatDoor
