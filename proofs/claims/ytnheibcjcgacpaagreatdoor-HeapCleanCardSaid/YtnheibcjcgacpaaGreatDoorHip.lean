/- Malloc and Free of a heap, as one contract each; Drop's plain part. -/
import Derived.Test.YtnheibcjcgacpaaGreatDoorHio
set_option linter.unusedVariables false
set_option linter.unusedSimpArgs false
namespace Go.Proofs.YtnheibcjcgacpaaGreatDoor
open Go.RowKit Go.ChangeMaps
namespace Hin
open Pgi He Pg
theorem alok_new {B : Bs} {base c : Nat} (hc : c < 8) : AlOk B (newP base c) := by
  have := (Pc.per_range hc).1
  exact ⟨show 0 < Pc.per c by omega, getD_rep _ _ (show 0 < Pc.per c by omega)⟩
theorem malloc_all (w : World) (X : HX) (g : Int → Pla) (p : Ar.Pl) (v : Value) (cp : Co.Pla) (t : T3) (n : Int) (j : HJ w X g p v cp t.H t.S t.M) (h : HI t) (hW : t.H.W.length ≤ 1000000) (hT : t.S.T.length + 1 ≤ 1000000000) :
    Calls Tryz.prog 20 #[.pointer (some ⟨X.hb, 0, none⟩), .int .i64 n] w (MalR w X g p v cp t (mallocT t n).1 (mallocT t n).2.1 (mallocT t n).2.2) := by
  have m := mal_cases (n := n) h
  generalize mallocT t n = r at m
  cases m with
  | bad h1 => exact malloc_bad w X g p v cp t n h1 j
  | full c h1 h2 h3 h4 =>
    by_cases h8 : c < 8
    · exact malloc_none w X g p v cp t n c h1 h8 (h4 h8) h3 hW j
    · exact malloc_nohold w X g p v cp t n c h1 h2 (by omega) h3 hW j
  | great c s xs h1 h2 h8 ho hs hf hl hS k => exact malloc_great w X g p v cp t n c s h1 h2 h8 ho hS hs hW j
  | new c s xs h1 h8 ho hL hs hf hl hS k hx =>
    obtain ⟨x1, x2, x3, x4⟩ := k.x 0 (by rw [pgs1 h8]; omega)
    have hfit := page_fit x1 h.ti.bl
    refine malloc_any w X g p v cp t (new1 (holdT t c) c (Pc.loc c s) (xs 0)) n c (Pc.loc c s) s (xs 0) [] (newP (xs 0 * 512) c) h1 h8 j ⟨?_, rfl, hs, ?_, rfl, alok_new h8, ?_, ?_⟩ (.inr ⟨hL, ho, hS, ?_, hx, hW, rfl⟩)
    · show upl (holdT t c).H.L c _ c = _
      rw [upl_same]
    · show eget (eset (holdT t c).H.D _ _) _ = _
      rw [eget_eset, if_pos rfl]
    · show xs 0 * 512 + 512 ≤ (holdT t c).S.B.length
      rw [k.S]; exact hfit
    · show (holdT t c).S.T.length + 1 ≤ _
      rw [k.S]; exact hT
    · cases hD : eget t.H.D ((Pc.loc c s : Nat) : Int) with
      | none => rfl
      | some P =>
        obtain ⟨c0, s0, x, a1, a2, a3, a4, _⟩ := h.pg hD
        obtain ⟨rfl, rfl⟩ := loc_inj0 (c := c) (c' := c0) (by omega) hs (by omega) a2 (by omega)
        rw [hf] at a3; cases a3
  | old c s r P h1 h8 hs hL hP hk hf =>
    obtain ⟨c0, s0, x, a1, a2, a3, a4, a5, a6, a7, a8, a9, a10, a11⟩ := h.pg hP
    exact malloc_any w X g p v cp t t n c (Pc.loc c s) s 0 r P h1 h8 j ⟨hL, rfl, hs, hP, hk, a8.alOk a9 hf, a9, hT⟩ (.inl rfl)
theorem free_all (w : World) (X : HX) (g : Int → Pla) (p : Ar.Pl) (v : Value) (cp : Co.Pla) (t : T3) (a : Int) (ha : -9223372036854775808 ≤ a ∧ a ≤ 9223372036854775807) (j : HJ w X g p v cp t.H t.S t.M) (h : HI t) (hT : t.S.T.length + 20 ≤ 1000000000) :
    Calls Tryz.prog 23 #[.pointer (some ⟨X.hb, 0, none⟩), .int .i64 a] w (FreR w X g p v cp t (freeT t a).1 (freeT t a).2) := by
  have m := fre_cases (a := a) h
  generalize freeT t a = r at m
  cases m with
  | none h1 => exact free_none w X g p v cp t a ha h1 j
  | great c s k h1 h2 h8 hs hk hf => exact free_great w X g p v cp t a c s k ha h1 h8 j (by omega)
  | small c s k P h1 h8 hs hf hP hK hk hh =>
    obtain ⟨c0, s0, x, a1, a2, a3, a4, a5, a6, a7, a8, a9, a10, a11⟩ := h.pg hP
    exact free_small w X g p v cp t a c s k (Pc.loc c s) P ha h1 h8 rfl hP hK a9 j hT
/-! Touches. -/
theorem al_T (P : PG) (S : Ar.AS) : (alS P S).T.length ≤ S.T.length + 2 := by
  have hp : ∀ k, (popS P S k).T.length ≤ S.T.length + 2 := fun k => by
    have h1 := Ar.note_len (Ar.note S.T (P.base + k * Pc.un P.kind) 8 false) (P.base + k * Pc.un P.kind) 8 true
    have h2 := Ar.note_len S.T (P.base + k * Pc.un P.kind) 8 false
    show (Ar.note _ _ 8 true).length ≤ _
    omega
  unfold alS
  cases P.R with
  | cons k L => exact hp k
  | nil => cases P.W with
    | cons k L => exact hp k
    | nil => exact Nat.le_add_right _ _
theorem mal1_S (t : T3) (c : Nat) (v : Int) (P : PG) : (mal1 t c v P).S = alS P t.S ∧ (mal1 t c v P).M = t.M ∧ (mal1 t c v P).H.W = t.H.W ∧ (mal1 t c v P).H.E = t.H.E ∧ (mal1 t c v P).H.G = t.H.G ∧ (mal1 t c v P).H.F = t.H.F ∧ (mal1 t c v P).H.D = eset t.H.D v (alP P) := by
  unfold mal1
  split <;> exact ⟨rfl, rfl, rfl, rfl, rfl, rfl, rfl⟩
theorem malloc_T {t : T3} {n : Int} (h : HI t) : (mallocT t n).1.S.T.length ≤ t.S.T.length + 2 := by
  have m := mal_cases (n := n) h
  generalize mallocT t n = r at m
  cases m with
  | bad => exact Nat.le_add_right _ _
  | full => exact Nat.le_add_right _ _
  | great c s xs h1 h2 h8 ho hs hf hl hS k => show (holdT t c).S.T.length ≤ _; rw [k.S]; exact Nat.le_add_right _ _
  | new c s xs h1 h8 ho hL hs hf hl hS k hx =>
    show (mal1 _ _ _ _).S.T.length ≤ _
    rw [(mal1_S _ _ _ _).1]
    refine Nat.le_trans (al_T _ _) ?_
    show (holdT t c).S.T.length + 2 ≤ _
    rw [k.S]; exact Nat.le_refl _
  | old c s r P h1 h8 hs hL hP hk hf =>
    show (mal1 _ _ _ _).S.T.length ≤ _
    rw [(mal1_S _ _ _ _).1]; exact al_T _ _
theorem rel_T (t : T3) (c s : Nat) (hc : c < 24) : (rel3 t c s).S.T.length ≤ t.S.T.length + 16 := by
  have h1 := letN_T t (Pc.loc c s) (Pc.pgs c)
  have h2 := (Pc.pgs_range hc).2
  show (letN t (Pc.loc c s) (Pc.pgs c)).S.T.length ≤ _
  omega
theorem free_T {t : T3} {a : Int} (h : HI t) : (freeT t a).1.S.T.length ≤ t.S.T.length + 18 := by
  have m := fre_cases (a := a) h
  generalize freeT t a = r at m
  cases m with
  | none => exact Nat.le_add_right _ _
  | great c s k h1 h2 h8 hs hk hf => have := rel_T t c s h2; show (rel3 t c s).S.T.length ≤ _; omega
  | small c s k P h1 h8 hs hf hP hK hk hh =>
    show (free3 t c s (Pc.loc c s) P k).S.T.length ≤ _
    have h0 : (fr1 (fr0 t c ((Pc.loc c s : Nat) : Int) P) ((Pc.loc c s : Nat) : Int) P k).S.T.length ≤ t.S.T.length + 2 := by
      show (freeS P (fr0 t c _ P).S k).T.length ≤ _
      rw [(fr0_same t c _ P).2]; exact freeS_T P t.S k
    unfold free3
    split
    · refine Nat.le_trans (rel_T _ c s (by omega)) ?_
      show (fr1 (fr0 t c ((Pc.loc c s : Nat) : Int) P) ((Pc.loc c s : Nat) : Int) P k).S.T.length + 16 ≤ _
      omega
    · omega
end Hin
end Go.Proofs.YtnheibcjcgacpaaGreatDoor
