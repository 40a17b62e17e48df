/- garthlaw17's two heaps of one arena: what holds of both between calls; each call's contract over both. | HeapClean's plain law: blocks come and go; where all pages are free all bytes are 0. -/
import Derived.Test.YtnheibcjcgacpaaGreatDoorVl
import Derived.Test.YtnheibcjcgacpaaGreatDoorHmd
import Derived.Test.YtnheibcjcgacpaaGreatDoorHmw
import Derived.Test.YtnheibcjcgacpaaGreatDoorHwn
set_option linter.unusedVariables false
set_option linter.unusedSimpArgs false
/-! garthlaw17's two heaps of one arena: what holds of both between calls; each call's contract over both. -/
namespace Go.Proofs.YtnheibcjcgacpaaGreatDoor
open Go.RowKit Go.ChangeMaps
namespace Hm
open He Hin Vw
/-- A heap: its places and itself. -/
structure HH where
  X : HX
  g : Int → Pg.Pla
  H : HS
structure TS where
  h : Nat → HH
  v : Value
  S : Ar.AS
  M : Co.CM
def TS.t (z : TS) (i : Nat) : T3 := ⟨(z.h i).H, z.S, z.M⟩
def hfp (x : HH) (b : Nat) : Prop := Fp x.X x.g x.H.D b
structure TW (w : World) (m : MX) (P C : Nat) (r0 r1 : Value) (z : TS) (wr : World) : Prop where
  j : ∀ i, i < 2 → HJ wr (z.h i).X (z.h i).g m.p z.v m.cp (z.h i).H z.S z.M
  hi : ∀ i, i < 2 → HI (z.t i)
  fp : ∀ x, hfp (z.h 0) x → ¬ hfp (z.h 1) x
  ap : Apart (z.h 0).H (z.h 1).H
  al : ∀ y : Nat, fr z.M y = false → y < z.M.P → ∃ i v, i < 2 ∧ eget (z.h i).H.E v = some (y : Int)
  nw : ∀ i x, i < 2 → hfp (z.h i) x → w.heap.size ≤ x ∧ x ≠ m.pb ∧ x ≠ m.y
  na : ∀ x, Ar.Fp m.p z.v x ∨ Co.Fp m.cp C x → w.heap.size ≤ x ∧ x ≠ m.pb ∧ x ≠ m.y
  pb : w.heap.size ≤ m.pb
  K : Keeps (fun _ => False) w wr
  pr : wr.heap[m.pb]? = some (.cells (pairC m (ptr (z.h 0).X.hb) (ptr (z.h 1).X.hb) r0 r1) 42 (0, 0))
  y : wr.heap[m.y]? = some (.cells #[.int .i64 P, .int .i64 C, .slice (some ⟨m.yg, 0, none⟩) P P] 176 (0, 0))
  c : z.M.C = C
  p : z.M.P = P
theorem TW.old {w : World} {m : MX} {P C : Nat} {r0 r1 : Value} {z : TS} {wr w' : World} (h : TW w m P C r0 r1 z wr) (k : Keeps (fun _ => False) wr w') : TW w m P C r0 r1 z w' :=
  { h with j := fun i hi => (h.j i hi).old k, K := h.K.trans k, pr := k.at h.pr (fun x => x), y := k.at h.y (fun x => x) }
theorem two {i : Nat} (h : i < 2) : i = 0 ∨ i = 1 := by omega
theorem TW.fps {w : World} {m : MX} {P C : Nat} {r0 r1 : Value} {z : TS} {wr : World} (h : TW w m P C r0 r1 z wr) {i : Nat} (hi : i < 2) {x : Nat} (hx : hfp (z.h i) x) : ¬ hfp (z.h (1 - i)) x := by
  rcases two hi with rfl | rfl
  · exact h.fp x hx
  · exact fun e => h.fp x e hx
theorem TW.aps {w : World} {m : MX} {P C : Nat} {r0 r1 : Value} {z : TS} {wr : World} (h : TW w m P C r0 r1 z wr) {i : Nat} (hi : i < 2) : Apart (z.h i).H (z.h (1 - i)).H := by
  rcases two hi with rfl | rfl
  · exact h.ap
  · exact h.ap.symm
def TS.set (z : TS) (i : Nat) (a : HH) (v : Value) (S : Ar.AS) (M : Co.CM) : TS := ⟨fun k => if k = i then a else z.h k, v, S, M⟩
theorem set_i (z : TS) (i : Nat) (a : HH) (v : Value) (S : Ar.AS) (M : Co.CM) : (z.set i a v S M).h i = a := if_pos rfl
theorem set_o (z : TS) (i : Nat) (a : HH) (v : Value) (S : Ar.AS) (M : Co.CM) {k : Nat} (hk : k ≠ i) : (z.set i a v S M).h k = z.h k := if_neg hk
/-- A call of one of them. -/
theorem TW.step {w : World} {m : MX} {P C : Nat} {r0 r1 : Value} {z : TS} {wr w' : World} (h : TW w m P C r0 r1 z wr) {i : Nat} (hi : i < 2) {X' : HX} {g' : Int → Pg.Pla} {v' : Value} {H' : HS} {S' : Ar.AS} {M' : Co.CM}
    (hg : HG wr (z.h i).X (z.h i).g m.p z.v m.cp (z.h i).H.D z.M.C X' g' v' H' S' M' w') (h' : HI ⟨H', S', M'⟩) (f : Fra (z.t i) ⟨H', S', M'⟩) (a : Acc (z.t i) ⟨H', S', M'⟩) : TW w m P C r0 r1 (z.set i ⟨X', g', H'⟩ v' S' M') w' := by
  have ho : 1 - i < 2 := by omega
  have hne : 1 - i ≠ i := by omega
  have jo := h.j (1 - i) ho
  have ji := h.j i hi
  have o := oth_ok (t := z.t i) (t' := ⟨H', S', M'⟩) (h.hi (1 - i) ho) f h' (h.aps hi)
  have hAF : ∀ x, AF (z.h i).X (z.h i).g (z.h i).H.D m.p z.v m.cp z.M.C x → w.heap.size ≤ x ∧ x ≠ m.pb ∧ x ≠ m.y := fun x hx => by
    rcases hx with e | e | e
    · exact h.nw i x hi e
    · exact h.na x (.inl e)
    · exact h.na x (.inr (by rw [← h.c]; exact e))
  have hsz := hg.keeps.size
  have hpb := lt_of h.pr
  have hyl := lt_of h.y
  have hw := h.K.size
  have jo' : HJ w' (z.h (1 - i)).X (z.h (1 - i)).g m.p v' m.cp (z.h (1 - i)).H S' M' := {
    h := jo.h.keep hg.keeps (fun x hx e => by
      rcases e with e | e | e
      · exact h.fps hi e hx
      · exact jo.ha x hx e
      · exact jo.hc x hx e)
    ar := hg.j.ar
    co := hg.j.co
    T := hg.j.T
    ha := fun x hx e => by
      rcases hg.fa x e with q | q
      · exact jo.ha x hx q
      · have := jo.h.lt hx; omega
    hc := fun x hx e => jo.hc x hx (by rw [hg.c] at e; exact e)
    ac := hg.j.ac
    off := fun x hx => by
      rcases hx with e | e
      · exact jo.off x (.inl e)
      · exact hg.j.off x (.inr e)
    bl := hg.j.bl
    pg := o.hi.ti.pg }
  have hf' : ∀ x, Fp X' g' H'.D x → ¬ hfp (z.h (1 - i)) x := fun x hx e => by
    rcases hg.fh x hx with q | q
    · exact h.fps hi q e
    · have := jo.h.lt e; omega
  have hnf : ∀ x, Fp X' g' H'.D x → w.heap.size ≤ x ∧ x ≠ m.pb ∧ x ≠ m.y := fun x hx => by
    rcases hg.fh x hx with q | q
    · exact h.nw i x hi q
    · exact ⟨by omega, by omega, by omega⟩
  have hj : ∀ k, k < 2 → HJ w' ((z.set i ⟨X', g', H'⟩ v' S' M').h k).X ((z.set i ⟨X', g', H'⟩ v' S' M').h k).g m.p v' m.cp ((z.set i ⟨X', g', H'⟩ v' S' M').h k).H S' M' := fun k hk => by
    by_cases e : k = i
    · subst e; rw [set_i]; exact hg.j
    · obtain rfl : k = 1 - i := by omega
      rw [set_o _ _ _ _ _ _ e]; exact jo'
  refine ⟨hj, fun k hk => ?_, ?_, ?_, fun y hy hP => ?_, fun k x hk hx => ?_, fun x hx => ?_, h.pb, h.K.trans' hg.keeps (fun x hx hl => by have := (hAF x hx).1; omega), ?_, hg.keeps.at h.y (fun e => (hAF _ e).2.2 rfl), by rw [← h.c]; exact hg.c, by rw [← h.p]; exact f.CP.2⟩
  · unfold TS.t
    by_cases e : k = i
    · subst e; rw [set_i]; exact h'
    · obtain rfl : k = 1 - i := by omega
      rw [set_o _ _ _ _ _ _ e]; exact o.hi
  · rcases two hi with rfl | rfl
    · rw [set_i, set_o _ _ _ _ _ _ (show (1 : Nat) ≠ 0 by omega)]; exact fun x hx => hf' x hx
    · rw [set_i, set_o _ _ _ _ _ _ (show (0 : Nat) ≠ 1 by omega)]; exact fun x hx e => hf' x e hx
  · rcases two hi with rfl | rfl
    · rw [set_i, set_o _ _ _ _ _ _ (show (1 : Nat) ≠ 0 by omega)]; exact o.ap
    · rw [set_i, set_o _ _ _ _ _ _ (show (0 : Nat) ≠ 1 by omega)]; exact o.ap.symm
  · rcases a y hy with ⟨v, hv⟩ | ⟨e1, e2⟩
    · exact ⟨i, v, hi, by rw [set_i]; exact hv⟩
    · obtain ⟨k, v, hk, hv⟩ := h.al y e1 (by have := f.CP.2; have hP : y < M'.P := hP; have this : M'.P = z.M.P := this; omega)
      have hki : k ≠ i := fun e => by rw [e] at hv; exact e2 v hv
      exact ⟨k, v, hk, by rw [set_o _ _ _ _ _ _ hki]; exact hv⟩
  · unfold hfp at hx
    by_cases e : k = i
    · subst e; rw [set_i] at hx; exact hnf x hx
    · rw [set_o _ _ _ _ _ _ e] at hx; exact h.nw k x hk hx
  · rcases hx with e | e
    · rcases hg.fa x e with q | q
      · exact h.na x (.inl q)
      · exact ⟨by omega, by omega, by omega⟩
    · exact h.na x (.inr e)
  · rw [hg.keeps.at h.pr (fun e => (hAF _ e).2.1 rfl)]
    rcases two hi with rfl | rfl
    · rw [set_i, set_o _ _ _ _ _ _ (show (1 : Nat) ≠ 0 by omega)]
      show _ = some (Obj.cells (pairC m (ptr X'.hb) _ r0 r1) _ _)
      rw [hg.hb]
    · rw [set_i, set_o _ _ _ _ _ _ (show (0 : Nat) ≠ 1 by omega)]
      show _ = some (Obj.cells (pairC m _ (ptr X'.hb) r0 r1) _ _)
      rw [hg.hb]
/-- What the two heaps' blocks are. -/
def zfp (m : MX) (C : Nat) (z : TS) (x : Nat) : Prop := hfp (z.h 0) x ∨ hfp (z.h 1) x ∨ Ar.Fp m.p z.v x ∨ Co.Fp m.cp C x
theorem TW.lt {w : World} {m : MX} {P C : Nat} {r0 r1 : Value} {z : TS} {wr : World} (h : TW w m P C r0 r1 z wr) {x : Nat} (hx : zfp m C z x) : x < wr.heap.size := by
  rcases hx with e | e | e | e
  · exact (h.j 0 (by omega)).h.lt e
  · exact (h.j 1 (by omega)).h.lt e
  · exact (h.j 0 (by omega)).ar.lt e
  · exact (h.j 0 (by omega)).co.lt (by rw [h.c]; exact e)
/-- What a call of one of them leaves. -/
structure Nxt (m : MX) (C : Nat) (i : Nat) (z z' : TS) (t' : T3) (wr w' : World) : Prop where
  t : z'.t i = t'
  o : z'.h (1 - i) = z.h (1 - i)
  hb : (z'.h i).X.hb = (z.h i).X.hb
  k : Keeps (zfp m C z) wr w'
  f : ∀ x, zfp m C z' x → zfp m C z x ∨ wr.heap.size ≤ x
theorem nxt_set {w : World} {m : MX} {P C : Nat} {r0 r1 : Value} {z : TS} {wr w' : World} (h : TW w m P C r0 r1 z wr) {i : Nat} (hi : i < 2) {X' : HX} {g' : Int → Pg.Pla} {v' : Value} {t' : T3} (hG : HG wr (z.h i).X (z.h i).g m.p z.v m.cp (z.h i).H.D z.M.C X' g' v' t'.H t'.S t'.M w') : Nxt m C i z (z.set i ⟨X', g', t'.H⟩ v' t'.S t'.M) t' wr w' := by
  refine ⟨by unfold TS.t; rw [set_i]; rfl, set_o _ _ _ _ _ _ (by omega), by rw [set_i]; exact hG.hb, hG.keeps.mono (fun x _ hx => ?_), fun x hx => ?_⟩
  · unfold zfp
    rcases hx with e | e | e
    · rcases two hi with rfl | rfl
      · exact .inl e
      · exact .inr (.inl e)
    · exact .inr (.inr (.inl e))
    · exact .inr (.inr (.inr (by rw [← h.c]; exact e)))
  · unfold zfp at hx ⊢
    have hn : ∀ x, hfp ((z.set i ⟨X', g', t'.H⟩ v' t'.S t'.M).h i) x → hfp (z.h i) x ∨ wr.heap.size ≤ x := fun x hx => by rw [set_i] at hx; exact hG.fh x hx
    have ho : ∀ k, k ≠ i → hfp ((z.set i ⟨X', g', t'.H⟩ v' t'.S t'.M).h k) x → hfp (z.h k) x := fun k hk hx => by rw [set_o _ _ _ _ _ _ hk] at hx; exact hx
    rcases hx with e | e | e | e
    · rcases two hi with rfl | rfl
      · exact (hn x e).imp .inl id
      · exact .inl (.inl (ho 0 (by omega) e))
    · rcases two hi with rfl | rfl
      · exact .inl (.inr (.inl (ho 1 (by omega) e)))
      · exact (hn x e).imp (fun q => .inr (.inl q)) id
    · exact (hG.fa x e).imp (fun q => .inr (.inr (.inl q))) id
    · exact .inl (.inr (.inr (.inr e)))
def hptr (x : HH) : Value := .pointer (some ⟨x.X.hb, 0, none⟩)
section
variable {w : World} {m : MX} {P C : Nat} {r0 r1 : Value} {z : TS} {wr : World}
def MalW (w : World) (m : MX) (P C : Nat) (r0 r1 : Value) (wr : World) (i : Nat) (z : TS) (t' : T3) (a E : Int) (e : Ending) (w' : World) : Prop := e = .returned (.tuple #[.int .i64 a, .int .i64 E]) ∧ ∃ z', TW w m P C r0 r1 z' w' ∧ Nxt m C i z z' t' wr w' ∧ z'.S.T.length ≤ z.S.T.length + 2
theorem tw_malloc (h : TW w m P C r0 r1 z wr) {i : Nat} (hi : i < 2) (n : Int) (hW : (z.h i).H.W.length ≤ 1000000) (hT : z.S.T.length + 1000 ≤ 1000000000) :
    Calls Tryz.prog 20 #[hptr (z.h i), .int .i64 n] wr (MalW w m P C r0 r1 wr i z (mallocT (z.t i) n).1 (mallocT (z.t i) n).2.1 (mallocT (z.t i) n).2.2) := by
  refine (malloc_all wr (z.h i).X (z.h i).g m.p z.v m.cp (z.t i) n (h.j i hi) (h.hi i hi) hW (by show z.S.T.length + 1 ≤ _; omega)).mono ?_
  rintro e w' ⟨rfl, g', v', hG⟩
  exact ⟨rfl, _, h.step hi hG (malloc_hi (h.hi i hi)) (malloc_fra (h.hi i hi)) (malloc_acc (h.hi i hi)), nxt_set h hi hG, malloc_T (h.hi i hi)⟩
def FreW (w : World) (m : MX) (P C : Nat) (r0 r1 : Value) (wr : World) (i : Nat) (z : TS) (t' : T3) (E : Int) (e : Ending) (w' : World) : Prop := e = .returned (.int .i64 E) ∧ ∃ z', TW w m P C r0 r1 z' w' ∧ Nxt m C i z z' t' wr w' ∧ z'.S.T.length ≤ z.S.T.length + 18
theorem tw_free (h : TW w m P C r0 r1 z wr) {i : Nat} (hi : i < 2) (a : Int) (ha : -9223372036854775808 ≤ a ∧ a ≤ 9223372036854775807) (hT : z.S.T.length + 1000 ≤ 1000000000) :
    Calls Tryz.prog 23 #[hptr (z.h i), .int .i64 a] wr (FreW w m P C r0 r1 wr i z (freeT (z.t i) a).1 (freeT (z.t i) a).2) := by
  refine (free_all wr (z.h i).X (z.h i).g m.p z.v m.cp (z.t i) a ha (h.j i hi) (h.hi i hi) (by show z.S.T.length + 20 ≤ _; omega)).mono ?_
  rintro e w' ⟨rfl, v', hG⟩
  exact ⟨rfl, _, h.step hi hG (free_hi (h.hi i hi)) (free_fra (h.hi i hi)) (free_acc (h.hi i hi)), nxt_set h hi hG, free_T (h.hi i hi)⟩
def DrpW (w : World) (m : MX) (P C : Nat) (r0 r1 : Value) (wr : World) (i : Nat) (z : TS) (e : Ending) (w' : World) : Prop := e = .returned (.tuple #[]) ∧ ∃ z', TW w m P C r0 r1 z' w' ∧ Nxt m C i z z' (dropT (z.t i)) wr w' ∧ z'.S.T.length ≤ z.S.T.length + 6400
theorem drop_T (t : T3) (h : HI t) : (dropT t).S.T.length ≤ t.S.T.length + 6400 := by
  have h1 := letL_T (Tab.sortedKeys t.H.E) t
  have h2 := Tab.sortedKeys_len t.H.E
  have h3 := inv_len h.ti.inv
  show (letL t (Tab.sortedKeys t.H.E)).S.T.length ≤ _
  omega
theorem tw_drop (h : TW w m P C r0 r1 z wr) {i : Nat} (hi : i < 2) (hT : z.S.T.length + 6400 ≤ 1000000000) :
    Calls Tryz.prog 35 #[hptr (z.h i)] wr (DrpW w m P C r0 r1 wr i z) := by
  refine (drop_any wr (z.h i).X (z.h i).g m.p z.v m.cp (z.t i) (h.j i hi) hT).mono ?_
  rintro e w' ⟨rfl, X', v', hG⟩
  have k := drop_ok (h.hi i hi)
  exact ⟨rfl, _, h.step hi hG k.hi k.fra (drop_acc (h.hi i hi)), nxt_set h hi hG, drop_T _ (h.hi i hi)⟩
def MvW (w : World) (m : MX) (P C : Nat) (r0 r1 : Value) (wr : World) (i : Nat) (z : TS) (t' : T3) (E : Int) (e : Ending) (w' : World) : Prop := e = .returned (.int .i64 E) ∧ ∃ z', TW w m P C r0 r1 z' w' ∧ Nxt m C i z z' t' wr w' ∧ z'.S.T.length ≤ z.S.T.length + 19200
theorem move_T {t : T3} (h : HI t) (W' : List Int) : (moveT t W').1.S.T.length ≤ t.S.T.length + 19200 := by
  have h3 := inv_len h.ti.inv
  have h2 := Tab.sortedKeys_len t.H.E
  have h4 : (outL t W').length ≤ (Tab.sortedKeys t.H.E).length := List.length_filter_le _ _
  unfold moveT
  split
  · exact Nat.le_add_right _ _
  · rename_i e
    have := (move_ok h W' (by omega)).T
    have : (movL (setW t W') (outL t W')).S.T.length ≤ t.S.T.length + 3 * (outL t W').length := this
    show (movL (setW t W') (outL t W')).S.T.length ≤ _
    omega
theorem tw_move (h : TW w m P C r0 r1 z wr) {i : Nat} (hi : i < 2) (A0 : Option Addr) (n0 cap0 : Nat) (W' : List Int) (hA0 : A0 = none → n0 = 0 ∧ cap0 = 0) (hl0 : W'.length = n0) (hr0 : Rd wr A0 (ints W')) (hn0 : n0 ≤ 1000000) (hT : z.S.T.length + 20000 ≤ 1000000000) :
    Calls Tryz.prog 49 #[hptr (z.h i), .slice A0 n0 cap0] wr (MvW w m P C r0 r1 wr i z (moveT (z.t i) W').1 (moveT (z.t i) W').2) := by
  refine (move_any wr (z.h i).X (z.h i).g m.p z.v m.cp (z.t i) A0 n0 cap0 W' (h.j i hi) (h.hi i hi) hA0 hl0 hr0 hn0 hT).mono ?_
  rintro e w' ⟨rfl, X', v', hG⟩
  exact ⟨rfl, _, h.step hi hG (move_hi (h.hi i hi) W') (move_fra (h.hi i hi) W') (move_acc (h.hi i hi) W'), nxt_set h hi hG, move_T (h.hi i hi) W'⟩
theorem tw_blocks (h : TW w m P C r0 r1 z wr) {i : Nat} (hi : i < 2) : Calls Tryz.prog 21 #[hptr (z.h i)] wr (BlkR wr (blocksL (z.h i).H)) :=
  blocks_any wr (z.h i).X (z.h i).g m.p z.v m.cp (z.h i).H z.S z.M (h.j i hi)
theorem tw_pages (h : TW w m P C r0 r1 z wr) {i : Nat} (hi : i < 2) : Calls Tryz.prog 24 #[hptr (z.h i)] wr fun e w' => e = .returned (.int .i64 (z.h i).H.E.length) ∧ wr = w' :=
  pages_any wr (z.h i).X (z.h i).g m.p z.v m.cp (z.h i).H z.S z.M (h.j i hi)
theorem tw_table (h : TW w m P C r0 r1 z wr) {i : Nat} (hi : i < 2) : Calls Tryz.prog 26 #[hptr (z.h i)] wr fun e w' => e = .returned (.pointer (some ⟨(z.h i).X.tb, 0, none⟩)) ∧ wr = w' :=
  table_any wr (z.h i).X (z.h i).g m.p z.v m.cp (z.h i).H z.S z.M (h.j i hi)
theorem tw_usable (h : TW w m P C r0 r1 z wr) {i : Nat} (hi : i < 2) (a : Int) (ha : -9223372036854775808 ≤ a ∧ a ≤ 9223372036854775807) : Calls Tryz.prog 22 #[hptr (z.h i), .int .i64 a] wr fun e w' => e = .returned (.tuple #[.int .i64 (usableR (z.h i).H a).1, .int .i64 (usableR (z.h i).H a).2]) ∧ Keeps (fun _ => False) wr w' :=
  usable_any wr (z.h i).X (z.h i).g m.p z.v m.cp (z.h i).H z.S z.M a ha (h.j i hi)
def WrW (w : World) (m : MX) (P C : Nat) (r0 r1 : Value) (wr : World) (i : Nat) (z : TS) (c s k : Nat) (d : Nat → UInt8) (e : Ending) (w' : World) : Prop := e = .returned (.int .i64 0) ∧ ∃ z' S', TW w m P C r0 r1 z' w' ∧ Nxt m C i z z' ⟨(z.h i).H, S', z.M⟩ wr w' ∧ Wrote (z.t i) ⟨(z.h i).H, S', z.M⟩ c s k d ∧ z'.S.T.length ≤ z.S.T.length + 20
theorem tw_write (h : TW w m P C r0 r1 z wr) {i : Nat} (hi : i < 2) {c s k : Nat} (data : Bs) (hc : c < 24) (hs : s < Pc.slots c) (hk : k < Pc.nb c) (hh : hadB (z.h i).H c s k = true) (hd : data.length = Pc.un c) (hT : z.S.T.length + 1000 ≤ 1000000000) :
    Calls Tryz.prog 34 #[.pointer (some ⟨m.p.a, 0, none⟩), .pointer (some ⟨(z.h i).X.tb, 0, none⟩), .int .i64 ((Pc.addr c s k : Nat) : Int), .string (bs data)] wr (WrW w m P C r0 r1 wr i z c s k (fun i => data.getD i 0)) := by
  refine (wblk_any wr (z.h i).X (z.h i).g m.p z.v m.cp (z.t i) c s k data (h.j i hi) (h.hi i hi) hc hs hk hh hd hT).mono ?_
  rintro e w' ⟨rfl, S', v', hG, hW, hT'⟩
  exact ⟨rfl, _, S', h.step hi hG hW.hi hW.fra hW.acc, nxt_set (t' := ⟨(z.h i).H, S', z.M⟩) h hi hG, hW, hT'⟩
def RdW (w : World) (m : MX) (P C : Nat) (r0 r1 : Value) (wr : World) (i : Nat) (z : TS) (c s k : Nat) (e : Ending) (w' : World) : Prop := e = .returned (.tuple #[.string (bs ((List.range (Pc.un c)).map (fun j => byt (z.t i) (Pc.addr c s k + j)))), .int .i64 0]) ∧ ∃ z' T', TW w m P C r0 r1 z' w' ∧ Nxt m C i z z' ⟨(z.h i).H, ⟨z.S.B, T'⟩, z.M⟩ wr w' ∧ z'.S.T.length ≤ z.S.T.length + 20
theorem hi_T {t : T3} (h : HI t) (T' : List Sp) : HI ⟨t.H, ⟨t.S.B, T'⟩, t.M⟩ := ⟨⟨h.ti.inv, h.ti.mi, h.ti.tk, h.ti.bl, h.ti.zf⟩, h.fl, h.dm, h.dk, h.dd, h.ds, h.ll⟩
theorem tw_read (h : TW w m P C r0 r1 z wr) {i : Nat} (hi : i < 2) {c s k : Nat} (hc : c < 24) (hs : s < Pc.slots c) (hk : k < Pc.nb c) (hh : hadB (z.h i).H c s k = true) (hT : z.S.T.length + 1000 ≤ 1000000000) :
    Calls Tryz.prog 45 #[.pointer (some ⟨m.p.a, 0, none⟩), .pointer (some ⟨(z.h i).X.tb, 0, none⟩), .int .i64 ((Pc.addr c s k : Nat) : Int), .int .i64 ((Pc.un c : Nat) : Int)] wr (RdW w m P C r0 r1 wr i z c s k) := by
  refine (rblk_any wr (z.h i).X (z.h i).g m.p z.v m.cp (z.t i) c s k (h.j i hi) (h.hi i hi) hc hs hk hh hT).mono ?_
  rintro e w' ⟨rfl, T', v', hG, hT'⟩
  exact ⟨rfl, _, T', h.step hi hG (hi_T (h.hi i hi) T') ⟨⟨rfl, rfl⟩, rfl, fun y h1 h2 => ⟨h1, rfl, h2⟩⟩ (Acc.eq rfl rfl), nxt_set (t' := ⟨(z.h i).H, ⟨z.S.B, T'⟩, z.M⟩) h hi hG, hT'⟩
end
/-- The heaps as made leaves them. -/
def tz (m : MX) (P C : Nat) (W0 W1 : List Int) (X0 X1 : HX) : TS := ⟨fun i => if i = 0 then ⟨X0, g0, nH W0⟩ else ⟨X1, g0, nH W1⟩, m.v, nS P, nM P C⟩
theorem tz_h0 (m : MX) (P C : Nat) (W0 W1 : List Int) (X0 X1 : HX) : (tz m P C W0 W1 X0 X1).h 0 = ⟨X0, g0, nH W0⟩ := rfl
theorem tz_h1 (m : MX) (P C : Nat) (W0 W1 : List Int) (X0 X1 : HX) : (tz m P C W0 W1 X0 X1).h 1 = ⟨X1, g0, nH W1⟩ := rfl
theorem tw_start {w : World} {m : MX} {P C : Nat} {W0 W1 : List Int} {X0 X1 : HX} {r0 r1 : Value} {wr : World} (h : Co.Cfg P C) (M : M2 w m P C (nS P) (nM P C) W0 W1 X0 X1 r0 r1 wr) : TW w m P C r0 r1 (tz m P C W0 W1 X0 X1) wr := by
  obtain ⟨b, a0, a1, ap, pr⟩ := M
  have hP : ∀ y : Nat, fr (nM P C) y = false → y < P → False := fun y hy hP => by
    have mi := (hi_new (W0 := W0) h).ti.mi
    have hc := mi.c
    obtain ⟨p1, p2⟩ := Co.pg (nM P C) hc.1 mi.pc (x := y) hP
    have : (List.replicate (P / C) true).getD (y / C) false = true := Pgi.getD_rep _ _ p2
    have hy : (List.replicate (P / C) true).getD (y / C) false = false := hy
    rw [this] at hy; cases hy
  refine ⟨fun i hi => ?_, fun i hi => ?_, fun x hx => ap x hx, fun u v y hu => (by cases hu), fun y hy hy2 => (hP y hy hy2).elim, fun i x hi hx => ?_, fun x hx => ?_, b.pb, b.keeps, pr, b.y, rfl, rfl⟩
  · rcases two hi with rfl | rfl
    · exact a0.j
    · exact a1.j
  · rcases two hi with rfl | rfl
    · exact hi_new h
    · exact hi_new h
  · rcases two hi with rfl | rfl
    · exact a0.f x hx
    · exact a1.f x hx
  · rcases hx with e | e
    · exact ⟨(b.fa x e).1, (b.fa x e).2, b.ya x (.inl e)⟩
    · exact ⟨(b.fc x e).1, (b.fc x e).2, b.ya x (.inr e)⟩
end Hm
end Go.Proofs.YtnheibcjcgacpaaGreatDoor

/-! HeapClean's plain law: blocks come and go; where all pages are free all bytes are 0. -/
namespace Go.Proofs.YtnheibcjcgacpaaGreatDoor
open Go.RowKit Go.ChangeMaps
namespace Hin
open Pgi He Pg
theorem had_mem {H : HS} {c s k : Nat} (hc : c < 24) (hs : s < Pc.slots c) (hk : k < Pc.nb c) : ((Pc.addr c s k : Nat) : Int) ∈ blocksL H ↔ hadB H c s k = true := by
  rw [mem_blocks]
  constructor
  · rintro ⟨c', s', k', h1, h2, h3, e, h4⟩
    obtain ⟨rfl, rfl, rfl⟩ := addr_inj hc hs hk h1 h2 h3 (by omega)
    exact h4
  · intro h; exact ⟨c, s, k, hc, hs, hk, rfl, h⟩
theorem gone_mem {t t' : T3} {c s k : Nat} (g : Gone t t' c s k) (a : Int) : a ∈ blocksL t'.H ↔ a ∈ blocksL t.H ∧ a ≠ ((Pc.addr c s k : Nat) : Int) := by
  rw [mem_blocks, mem_blocks]
  constructor
  · rintro ⟨c', s', k', h1, h2, h3, rfl, h4⟩
    rw [g.had c' s' k' h1 h2 h3] at h4
    split at h4
    · cases h4
    · rename_i e
      exact ⟨⟨c', s', k', h1, h2, h3, rfl, h4⟩, fun q => e (addr_inj h1 h2 h3 g.hc g.hs g.hk (by omega))⟩
  · rintro ⟨⟨c', s', k', h1, h2, h3, rfl, h4⟩, hne⟩
    refine ⟨c', s', k', h1, h2, h3, rfl, ?_⟩
    rw [g.had c' s' k' h1 h2 h3, if_neg (fun q => hne (by rw [q.1, q.2.1, q.2.2]))]
    exact h4
theorem gave_mem {t t' : T3} {c s k : Nat} (g : Gave t t' c s k) (a : Int) : a ∈ blocksL t'.H ↔ a ∈ blocksL t.H ∨ a = ((Pc.addr c s k : Nat) : Int) := by
  rw [mem_blocks, mem_blocks]
  constructor
  · rintro ⟨c', s', k', h1, h2, h3, rfl, h4⟩
    rw [g.had c' s' k' h1 h2 h3] at h4
    split at h4
    · rename_i e; exact .inr (by rw [e.1, e.2.1, e.2.2])
    · exact .inl ⟨c', s', k', h1, h2, h3, rfl, h4⟩
  · rintro (⟨c', s', k', h1, h2, h3, rfl, h4⟩ | rfl)
    · refine ⟨c', s', k', h1, h2, h3, rfl, ?_⟩
      rw [g.had c' s' k' h1 h2 h3]
      split
      · rfl
      · exact h4
    · refine ⟨c, s, k, g.hc, g.hs, g.hk, rfl, ?_⟩
      rw [g.had c s k g.hc g.hs g.hk, if_pos ⟨rfl, rfl, rfl⟩]
theorem no_blocks {t : T3} (h : HI t) (hn : ∀ a, a ∉ blocksL t.H) : t.H.E = [] :=
  none_had h (fun c s k h1 h2 h3 => by
    cases e : hadB t.H c s k with
    | false => rfl
    | true => exact absurd ((had_mem h1 h2 h3).2 e) (hn _))
/-- One of the blocks that are left is given back. -/
theorem free_next {t : T3} {L : List Int} {j : Nat} (h : HI t) (hj : j < L.length) (hn : L.Nodup) (hL : ∀ a, a ∈ blocksL t.H ↔ a ∈ L.drop j) : (freeT t (L.getD j 0)).2 = 0 ∧ ∀ a, a ∈ blocksL (freeT t (L.getD j 0)).1.H ↔ a ∈ L.drop (j + 1) := by
  have ed : L.drop j = L[j] :: L.drop (j + 1) := List.drop_eq_getElem_cons hj
  have eg : L.getD j 0 = L[j] := by rw [List.getD_eq_getElem?_getD, List.getElem?_eq_getElem hj]; rfl
  rw [eg]
  have hm : L[j] ∈ blocksL t.H := (hL _).2 (by rw [ed]; exact List.mem_cons_self)
  obtain ⟨c, s, k, hb, h1, h2, h3, h4⟩ := blocks_blk hm
  rcases free_gone (a := L[j]) h with ⟨q, _⟩ | ⟨c', s', k', q1, q2, q3, q4⟩
  · rw [hb] at q; cases q
  · refine ⟨q3, fun a => ?_⟩
    rw [gone_mem q4, hL, ed, ← q2, List.mem_cons]
    have hnd : L[j] ∉ L.drop (j + 1) := by
      have := hn.sublist (List.drop_sublist j L)
      rw [ed, List.nodup_cons] at this
      exact this.1
    constructor
    · rintro ⟨e | e, hne⟩
      · exact absurd e hne
      · exact e
    · intro e; exact ⟨.inr e, fun w => hnd (w ▸ e)⟩
theorem frees_full {S : List Bool} (h : ∀ k, k < S.length → S.getD k false = true) : (Sh.frees S).length = S.length := by
  have : Sh.frees S = List.range S.length := by
    unfold Sh.frees
    exact List.filter_eq_self.2 (fun k hk => h k (List.mem_range.1 hk))
  rw [this, List.length_range]
theorem sum_const (n x : Nat) (f : Nat → Nat) : (∀ i, i < n → f i = x) → ((List.range n).map f).sum = n * x := by
  induction n with
  | zero => intro _; simp
  | succ n ih =>
    intro h
    rw [List.range_succ, List.map_append, List.sum_append, ih (fun i hi => h i (by omega))]
    simp [h n (by omega), Nat.add_mul]
theorem clean_end {t : T3} (ti : TI t) (hf : ∀ y, y < t.M.P → fr t.M y = true) : t.S.B = List.replicate (t.M.P * 512) 0 ∧ ∀ W : List Int, (∀ c : Nat, c < t.M.C → (c : Int) ∈ W) → Co.nf t.M W = t.M.P := by
  constructor
  · refine List.ext_getElem? fun q => ?_
    rw [List.getElem?_replicate]
    split
    · rename_i hq
      have hy : q / 512 < t.M.P := by omega
      have hz := ti.zf _ hy (hf _ hy)
      have h1 : (cut t.S.B (q / 512 * 512))[q % 512]? = some 0 := by
        rw [hz, List.getElem?_replicate, if_pos (Nat.mod_lt _ (by omega))]
      rw [cut_get, if_pos (Nat.mod_lt _ (by omega))] at h1
      rw [← h1]; congr 1; omega
    · rename_i hq
      exact List.getElem?_eq_none (by rw [ti.bl]; omega)
  · intro W hW
    have hmi := ti.mi
    unfold Co.nf
    rw [sum_const t.M.C (t.M.P / t.M.C)]
    · rw [Nat.mul_comm]; exact hmi.pc.symm
    · intro i hi
      rw [if_pos (hW i hi), frees_full, hmi.len i hi]
      intro k hk
      rw [hmi.len i hi] at hk
      have hc := hmi.c.1
      have e1 : (k * t.M.C + i) / t.M.C = k := by
        rw [Nat.mul_comm, Nat.mul_add_div hc, Nat.div_eq_of_lt hi, Nat.add_zero]
      have e2 : (k * t.M.C + i) % t.M.C = i := by
        rw [Nat.mul_add_mod', Nat.mod_eq_of_lt hi]
      have h1 := hf (k * t.M.C + i) (by
        rw [hmi.pc]
        have := Nat.mul_le_mul_right t.M.C (show k + 1 ≤ t.M.P / t.M.C from hk)
        rw [Nat.add_mul, Nat.one_mul] at this
        omega)
      unfold fr at h1
      rw [e1, e2] at h1
      exact h1
end Hin
namespace Hm
open Hin He
theorem tw_free_all {w : World} {m : MX} {P C : Nat} {r0 r1 : Value} {z : TS} {wr : World} (h : TW w m P C r0 r1 z wr) (h0 : (z.h 0).H.E = []) (h1 : (z.h 1).H.E = []) : z.S.B = List.replicate (P * 512) 0 ∧ ∀ W : List Int, (∀ c : Nat, c < C → (c : Int) ∈ W) → Co.nf z.M W = P := by
  have hf : ∀ y, y < z.M.P → fr z.M y = true := fun y hy => by
    cases e : fr z.M y with
    | true => rfl
    | false =>
      obtain ⟨i, v, hi, hv⟩ := h.al y e hy
      rcases two hi with rfl | rfl
      · rw [h0] at hv; cases hv
      · rw [h1] at hv; cases hv
  obtain ⟨q1, q2⟩ := clean_end (h.hi 0 (by omega)).ti hf
  rw [show (z.t 0).M.P = P from h.p] at q1 q2
  exact ⟨q1, fun W hW => q2 W (fun c hc => hW c (by rw [← h.c]; exact hc))⟩
end Hm
end Go.Proofs.YtnheibcjcgacpaaGreatDoor
