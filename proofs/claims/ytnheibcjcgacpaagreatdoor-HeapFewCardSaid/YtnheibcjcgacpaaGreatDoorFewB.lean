/- HeapFew's plain law: Malloc and Free. -/
import Derived.Test.YtnheibcjcgacpaaGreatDoorFew
set_option linter.unusedVariables false
set_option linter.unusedSimpArgs false
namespace Go.Proofs.YtnheibcjcgacpaaGreatDoor
open Go.RowKit Go.ChangeMaps
namespace Few
open Pgi He Pg Hin Rf
theorem loc_ne {c s c' s' : Nat} (hc : c < 24) (hs : s < Pc.slots c) (hc' : c' < 24) (hs' : s' < Pc.slots c') (h : ¬ (c' = c ∧ s' = s)) : ((Pc.loc c' s' : Nat) : Int) ≠ ((Pc.loc c s : Nat) : Int) := fun e => by
  have := loc_inj0 hc' hs' hc hs (by omega)
  exact h this
/-- A page turns: what its kind has. -/
theorem U_page {t t' : T3} {c s d : Nat} (hc : c < 8) (hs : s < Pc.slots c) (ho : ∀ v, v ≠ ((Pc.loc c s : Nat) : Int) → eget t'.H.D v = eget t.H.D v) (hu : usS t' c s = usS t c s + d) : U t' c = U t c + d ∧ ∀ i, i < 8 → i ≠ c → U t' i = U t i := by
  constructor
  · unfold U
    rw [if_pos hc, if_pos hc]
    refine rsum_up _ hs (fun i hi hne => ?_) hu
    unfold usS
    rw [ho _ (loc_ne (by omega) hs (by omega) hi (fun e => hne e.2))]
  · intro i hi hne
    unfold U
    rw [if_pos hi, if_pos hi]
    refine rsum_same _ (fun j hj => ?_)
    unfold usS
    rw [ho _ (loc_ne (by omega) hs (by omega) hj (fun e => hne e.1))]
theorem U_down {t t' : T3} {c s d : Nat} (hc : c < 8) (hs : s < Pc.slots c) (ho : ∀ v, v ≠ ((Pc.loc c s : Nat) : Int) → eget t'.H.D v = eget t.H.D v) (hu : usS t c s = usS t' c s + d) : U t c = U t' c + d ∧ ∀ i, i < 8 → i ≠ c → U t' i = U t i := by
  obtain ⟨h1, h2⟩ := U_page (t := t') (t' := t) hc hs (fun v hv => (ho v hv).symm) hu
  exact ⟨h1, fun i hi hne => (h2 i hi hne).symm⟩
theorem U_same {t t' : T3} {c : Nat} (hc : c < 8) (hD : t'.H.D = t.H.D) : U t' c = U t c := by
  unfold U
  rw [if_pos hc, if_pos hc]
  exact rsum_same _ (fun j _ => by unfold usS; rw [hD])
theorem U_great {t : T3} {c : Nat} (hc : 8 ≤ c) : U t c = K t c := by unfold U; rw [if_neg (by omega)]
theorem used_al {P : PG} {C : Bs} (h : PI C P) (hf : full P = false) : used (alP P) = used P + 1 := by
  obtain ⟨-, hk, hg, hS, -⟩ := h.al hf
  have hlt : alK P < P.S.length := by rw [h.sl]; exact hk
  have h1 := Sh.frees_len_false hlt hg
  have h2 := Sh.frees_le P.S
  unfold used
  rw [hS, List.length_set]
  omega
theorem used_new {b c : Nat} : used (newP b c) = 0 := by
  show (List.replicate (Pc.per c) true).length - (Sh.frees (List.replicate (Pc.per c) true)).length = 0
  rw [Sh.frees_all, List.length_range, List.length_replicate]; omega
theorem used_free {P : PG} {k : Nat} (hk : k < P.S.length) (hh : P.S.getD k false = false) : used P = used (freeP P k) + 1 := by
  have h1 := Sh.frees_len_true hk hh
  have h2 := Sh.frees_le (P.S.set k true)
  rw [List.length_set] at h2
  show P.S.length - (Sh.frees P.S).length = (P.S.set k true).length - (Sh.frees (P.S.set k true)).length + 1
  rw [List.length_set]
  omega
theorem usS_some {t : T3} {c s : Nat} {P : PG} (h : eget t.H.D ((Pc.loc c s : Nat) : Int) = some P) : usS t c s = used P := by unfold usS; rw [h]
theorem usS_none {t : T3} {c s : Nat} (h : eget t.H.D ((Pc.loc c s : Nat) : Int) = none) : usS t c s = 0 := by unfold usS; rw [h]
theorem no_page {t : T3} {c s : Nat} (h : HI t) (hc : c < 24) (hs : s < Pc.slots c) (hf : (t.H.F c).getD s false = true) : eget t.H.D ((Pc.loc c s : Nat) : Int) = none := by
  cases hD : eget t.H.D ((Pc.loc c s : Nat) : Int) with
  | none => rfl
  | some P =>
    obtain ⟨c', s', x, hc', hs', hg, e, -⟩ := h.dd _ P hD
    have e' : Pc.loc c s = Pc.loc c' s' := by omega
    obtain ⟨rfl, rfl⟩ := loc_inj0 hc hs (show c' < 24 by omega) hs' e'
    rw [hf] at hg; cases hg
theorem FI.great {t : T3} {cost q c s : Nat} {xs : Nat → Nat} (h : HI t) (f : FI t cost q) (hc : c < 24) (h8 : 8 ≤ c) (hs : s < Pc.slots c) (hf : (t.H.F c).getD s false = true) (k : Took (slotT t c s) (holdT t c) (Pc.loc c s) (Pc.pgs c) xs) (hq : cost + Pc.un c ≤ q) : FI (holdT t c) (cost + Pc.un c) q := by
  have hF : (holdT t c).H.F = upl t.H.F c ((t.H.F c).set s false) := k.D.2.1
  have hD : (holdT t c).H.D = t.H.D := k.D.1
  have hlen : (holdT t c).H.E.length = t.H.E.length + Pc.pgs c := k.len
  obtain ⟨hk1, hk2⟩ := K_take hs (h.fl c hc) hf hF
  have hU : ∀ i, i < 24 → i ≠ c → U (holdT t c) i = U t i := fun i hi hne => by
    by_cases e : i < 8
    · exact U_same e hD
    · rw [U_great (by omega), U_great (by omega)]; exact hk2 i hne
  have hUc : U (holdT t c) c = U t c + 1 := by rw [U_great h8, U_great h8]; exact hk1
  exact { len := by rw [hlen, pgsT_up hc (fun i _ hne => hk2 i hne) hk1, f.len, Nat.one_mul], cst := by rw [costT_up hc hU hUc, f.cst, Nat.one_mul], le := hq, by' := fun i hi => by rw [hk2 i (by omega)]; exact f.by' i hi }
theorem FI.old {t : T3} {cost q c s : Nat} {P : PG} (h : HI t) (f : FI t cost q) (hc : c < 8) (hs : s < Pc.slots c) (hP : eget t.H.D ((Pc.loc c s : Nat) : Int) = some P) (hf : full P = false) (hq : cost + Pc.un c ≤ q) : FI (mal1 t c ((Pc.loc c s : Nat) : Int) P) (cost + Pc.un c) q := by
  obtain ⟨-, -, -, hE, -, hF, hD⟩ := mal1_S t c ((Pc.loc c s : Nat) : Int) P
  obtain ⟨c', s', x, -, -, -, -, -, -, -, hPI, -⟩ := h.pg hP
  have hu := used_al hPI hf
  have hK : ∀ i, K (mal1 t c ((Pc.loc c s : Nat) : Int) P) i = K t i := fun i => K_same (by rw [hF])
  obtain ⟨u1, u2⟩ := U_page (t := t) (t' := mal1 t c ((Pc.loc c s : Nat) : Int) P) (d := 1) hc hs (fun v hv => by rw [hD, eget_eset, if_neg hv]) (by
    rw [usS_some hP, usS_some (P := alP P) (by rw [hD, eget_eset, if_pos rfl]), hu])
  have hU : ∀ i, i < 24 → i ≠ c → U (mal1 t c ((Pc.loc c s : Nat) : Int) P) i = U t i := fun i hi hne => by
    by_cases e : i < 8
    · exact u2 i e hne
    · rw [U_great (by omega), U_great (by omega)]; exact hK i
  have hp : pgsT (mal1 t c ((Pc.loc c s : Nat) : Int) P) = pgsT t := by
    unfold pgsT
    exact rsum_same 24 (fun i _ => by rw [hK i])
  exact { len := by rw [hE, hp, f.len], cst := by rw [costT_up (by omega) hU u1, f.cst, Nat.one_mul], le := hq, by' := fun i hi => by rw [hK i]; exact f.by' i hi }
theorem by_room {K p u cost q : Nat} (hu : 0 < u) (h : K * p * u ≤ cost) (hq : cost + u ≤ q) : K * p < q / u := by
  refine Nat.lt_of_succ_le ((Nat.le_div_iff_mul_le hu).2 ?_)
  rw [Nat.succ_mul]
  omega
theorem FI.new {t : T3} {cost q c s : Nat} {xs : Nat → Nat} (h : HI t) (f : FI t cost q) (hc : c < 8) (hL : t.H.L c = []) (hs : s < Pc.slots c) (hf : (t.H.F c).getD s false = true) (k : Took (slotT t c s) (holdT t c) (Pc.loc c s) (Pc.pgs c) xs) (hq : cost + Pc.un c ≤ q) :
    FI (mal1 (new1 (holdT t c) c (Pc.loc c s) (xs 0)) c ((Pc.loc c s : Nat) : Int) (newP (xs 0 * 512) c)) (cost + Pc.un c) q := by
  obtain ⟨-, -, -, hE, -, hF, hD⟩ := mal1_S (new1 (holdT t c) c (Pc.loc c s) (xs 0)) c ((Pc.loc c s : Nat) : Int) (newP (xs 0 * 512) c)
  have hE1 : (new1 (holdT t c) c (Pc.loc c s) (xs 0)).H.E = (holdT t c).H.E := rfl
  have hF1 : (new1 (holdT t c) c (Pc.loc c s) (xs 0)).H.F = (holdT t c).H.F := rfl
  have hD1 : (new1 (holdT t c) c (Pc.loc c s) (xs 0)).H.D = eset (holdT t c).H.D ((Pc.loc c s : Nat) : Int) (newP (xs 0 * 512) c) := rfl
  have hF2 : (holdT t c).H.F = upl t.H.F c ((t.H.F c).set s false) := k.D.2.1
  have hD2 : (holdT t c).H.D = t.H.D := k.D.1
  have hlen : (holdT t c).H.E.length = t.H.E.length + Pc.pgs c := k.len
  rw [hE1] at hE
  rw [hF1, hF2] at hF
  rw [hD1, hD2] at hD
  obtain ⟨t', ht'⟩ : ∃ t', mal1 (new1 (holdT t c) c (Pc.loc c s) (xs 0)) c ((Pc.loc c s : Nat) : Int) (newP (xs 0 * 512) c) = t' := ⟨_, rfl⟩
  rw [ht'] at hE hF hD ⊢
  clear ht' hE1 hF1 hD1 hF2 hD2
  obtain ⟨hk1, hk2⟩ := K_take hs (h.fl c (by omega)) hf hF
  have h0 := no_page h (by omega) hs hf
  have hu : used (alP (newP (xs 0 * 512) c)) = 1 := by rw [used_al (PI.new (base := xs 0 * 512) hc) (full_new hc), used_new]
  obtain ⟨u1, u2⟩ := U_page (t := t) (t' := t') (d := 1) hc hs (fun v hv => by rw [hD, eget_eset, if_neg hv, eget_eset, if_neg hv]) (by
    rw [usS_none h0, usS_some (P := alP (newP (xs 0 * 512) c)) (by rw [hD, eget_eset, if_pos rfl]), hu])
  have hU : ∀ i, i < 24 → i ≠ c → U t' i = U t i := fun i hi hne => by
    by_cases e : i < 8
    · exact u2 i e hne
    · rw [U_great (by omega), U_great (by omega)]; exact hk2 i hne
  have hfull := all_full h hc hL
  have hge : K t c * Pc.per c * Pc.un c ≤ cost := by
    rw [← hfull, f.cst]
    unfold costT
    exact rsum_ge (f := fun c => U t c * Pc.un c) 24 (by omega)
  have hby : K t c < byN c q := (byN_lt hc).1 (by_room (by have := (Pc.un_range (c := c) (by omega)).1; omega) hge hq)
  have hb : ∀ i, i < 8 → K t' i ≤ byN i q := by
    intro i hi
    by_cases e : i = c
    · subst e; rw [hk1]; omega
    · rw [hk2 i e]; exact f.by' i hi
  exact { len := by rw [hE, hlen, pgsT_up (by omega) (fun i _ hne => hk2 i hne) hk1, f.len, Nat.one_mul], cst := by rw [costT_up (by omega) hU u1, f.cst, Nat.one_mul], le := hq, by' := hb }
/-- Malloc, as long as it costs no more than there is. -/
theorem FI.malloc {t : T3} {cost q c : Nat} {n : Int} (h : HI t) (f : FI t cost q) (hn : Cl.kind n = (c : Int)) (hq : cost + Pc.un c ≤ q) : (mallocT t n).2.2 = 0 ∧ FI (mallocT t n).1 (cost + Pc.un c) q ∨ (mallocT t n).2.2 = 13 ∧ FI (mallocT t n).1 cost q := by
  have m := mal_cases (n := n) h
  generalize mallocT t n = r at m ⊢
  cases m with
  | bad h1 => rw [hn] at h1; omega
  | full c' h1 hc ho hl => exact .inr ⟨rfl, f⟩
  | great c' s xs h1 hc h8 ho hs hf hl hS k =>
    obtain rfl : c' = c := by omega
    exact .inl ⟨rfl, FI.great h f hc h8 hs hf k hq⟩
  | new c' s xs h1 hc ho hL hs hf hl hS k hx =>
    obtain rfl : c' = c := by omega
    exact .inl ⟨rfl, FI.new h f hc hL hs hf k hq⟩
  | old c' s r P h1 hc hs hL hP hk hf =>
    obtain rfl : c' = c := by omega
    exact .inl ⟨rfl, FI.old h f hc hs hP hf hq⟩
/-- What Free gives back of the cost. -/
def unA (t : T3) (a : Int) : Nat := match blk t.H a with
  | some (c, _, _) => Pc.un c
  | none => 0
theorem FI.rel {t t1 : T3} {c s d : Nat} {z : Int} (h : HIx (-1) z t1) (hc : c < 24) (hs : s < Pc.slots c) (hf : (t1.H.F c).getD s false = false) (hz : (c < 8 → z = ((Pc.loc c s : Nat) : Int) ∧ eget t1.H.D z = none) ∧ (8 ≤ c → z = -1)) : (rel3 t1 c s).H.E.length + Pc.pgs c = t1.H.E.length ∧ (rel3 t1 c s).H.D = t1.H.D ∧ (rel3 t1 c s).H.F = upl t1.H.F c ((t1.H.F c).set s true) := by
  obtain ⟨-, k⟩ := rel_hi h hc hs hf hz
  have hlen : s < (t1.H.F c).length := by rw [h.fl c hc]; exact hs
  obtain ⟨d1, d2, d3, d4⟩ := k.D
  refine ⟨k.len, d1, ?_⟩
  show upl (letN t1 (Pc.loc c s) (Pc.pgs c)).H.F c (Sh.giveS ((letN t1 (Pc.loc c s) (Pc.pgs c)).H.F c) s) = _
  rw [d2]
  unfold Sh.giveS
  rw [if_pos ⟨by omega, by omega⟩, Int.toNat_natCast]
theorem FI.free_great {t : T3} {cost q c s : Nat} (h : HI t) (f : FI t cost q) (hc : c < 24) (h8 : 8 ≤ c) (hs : s < Pc.slots c) (hf : (t.H.F c).getD s false = false) : ∃ cost', cost = cost' + Pc.un c ∧ FI (rel3 t c s) cost' q := by
  obtain ⟨hE, hD, hF⟩ := FI.rel (t := t) (d := 0) h hc hs hf ⟨fun e => by omega, fun _ => rfl⟩
  generalize rel3 t c s = t' at *
  obtain ⟨hk1, hk2⟩ := K_give hs (h.fl c hc) hf hF
  have hU : ∀ i, i < 24 → i ≠ c → U t i = U t' i := fun i hi hne => by
    by_cases e : i < 8
    · exact (U_same e hD).symm
    · rw [U_great (by omega), U_great (by omega)]; exact (hk2 i hne).symm
  have hUc : U t c = U t' c + 1 := by rw [U_great h8, U_great h8]; exact hk1
  have e1 := pgsT_up (t := t') (t' := t) hc (fun i _ hne => (hk2 i hne).symm) hk1
  have e2 := costT_up (t := t') (t' := t) hc hU hUc
  rw [Nat.one_mul] at e1 e2
  have hq := f.le
  have hcs := f.cst
  have hl := f.len
  exact ⟨costT t', by omega, { len := by omega, cst := rfl, le := by omega, by' := fun i hi => by rw [hk2 i (by omega)]; exact f.by' i hi }⟩
theorem FI.free_small {t : T3} {cost q c s k : Nat} {P : PG} (h : HI t) (f : FI t cost q) (hc : c < 8) (hs : s < Pc.slots c) (hf : (t.H.F c).getD s false = false) (hP : eget t.H.D ((Pc.loc c s : Nat) : Int) = some P) (hK : P.kind = c) (hk : k < Pc.per c) (hh : P.S.getD k false = false) : ∃ cost', cost = cost' + Pc.un c ∧ FI (free3 t c s (Pc.loc c s) P k) cost' q := by
  have hx := fre_hi h hc hs hP hk hh
  have hE0 : (fr0 t c ((Pc.loc c s : Nat) : Int) P).H.E = t.H.E := by unfold fr0; split <;> rfl
  have hF0 : (fr0 t c ((Pc.loc c s : Nat) : Int) P).H.F = t.H.F := by unfold fr0; split <;> rfl
  have hD0 := (fr0_same t c ((Pc.loc c s : Nat) : Int) P).1
  obtain ⟨c', s', x, -, -, -, e, hk', -, -, hPI, -⟩ := h.pg hP
  have hsl : k < P.S.length := by rw [hPI.sl, hK]; exact hk
  have hu := used_free hsl hh
  have hq := f.le
  have hcs := f.cst
  have hl := f.len
  unfold free3
  by_cases hz : used (freeP P k) = 0
  · rw [if_pos hz]
    obtain ⟨t2, ht2⟩ : ∃ t2, fr1 (fr0 t c ((Pc.loc c s : Nat) : Int) P) ((Pc.loc c s : Nat) : Int) P k = t2 := ⟨_, rfl⟩
    have hx2 := hx
    rw [ht2] at hx2 ⊢
    have hE2 : t2.H.E = t.H.E := by rw [← ht2]; exact hE0
    have hF2 : t2.H.F = t.H.F := by rw [← ht2]; exact hF0
    have hD2 : t2.H.D = eset t.H.D ((Pc.loc c s : Nat) : Int) (freeP P k) := by
      rw [← ht2]; show eset (fr0 t c ((Pc.loc c s : Nat) : Int) P).H.D _ _ = _; rw [hD0]
    have hx3 := del_hi (P := P) hx2 hc hs
    have hD3 : (fr2 t2 c ((Pc.loc c s : Nat) : Int)).H.D = edel t2.H.D ((Pc.loc c s : Nat) : Int) := rfl
    have hF3 : (fr2 t2 c ((Pc.loc c s : Nat) : Int)).H.F = t2.H.F := rfl
    have hE3 : (fr2 t2 c ((Pc.loc c s : Nat) : Int)).H.E = t2.H.E := rfl
    obtain ⟨hE, hD, hF⟩ := FI.rel (t := t) (d := 0) hx3 (by omega) hs (by rw [hF3, hF2]; exact hf) ⟨fun _ => ⟨rfl, by rw [hD3, eget_edel, if_pos rfl]⟩, fun e => by omega⟩
    rw [hE3, hE2] at hE
    rw [hD3, hD2] at hD
    rw [hF3, hF2] at hF
    generalize rel3 (fr2 t2 c ((Pc.loc c s : Nat) : Int)) c s = t' at *
    obtain ⟨hk1, hk2⟩ := K_give hs (h.fl c (by omega)) hf hF
    obtain ⟨u1, u2⟩ := U_down (t := t) (t' := t') (d := 1) hc hs (fun v hv => by rw [hD, eget_edel, if_neg hv, eget_eset, if_neg hv]) (by
      rw [usS_some hP, usS_none (t := t') (by rw [hD, eget_edel, if_pos rfl]), hu, hz])
    have hU : ∀ i, i < 24 → i ≠ c → U t i = U t' i := fun i hi hne => by
      by_cases e : i < 8
      · exact (u2 i e hne).symm
      · rw [U_great (by omega), U_great (by omega)]; exact (hk2 i hne).symm
    have e1 := pgsT_up (t := t') (t' := t) (show c < 24 by omega) (fun i _ hne => (hk2 i hne).symm) hk1
    have e2 := costT_up (t := t') (t' := t) (show c < 24 by omega) hU u1
    rw [Nat.one_mul] at e1 e2
    have hb : ∀ i, i < 8 → K t' i ≤ byN i q := by
      intro i hi
      have := f.by' i hi
      by_cases e : i = c
      · subst e; omega
      · rw [hk2 i e]; exact this
    exact ⟨costT t', by omega, { len := by omega, cst := rfl, le := by omega, by' := hb }⟩
  · rw [if_neg hz]
    obtain ⟨t', ht'⟩ : ∃ t', fr1 (fr0 t c ((Pc.loc c s : Nat) : Int) P) ((Pc.loc c s : Nat) : Int) P k = t' := ⟨_, rfl⟩
    have hE2 : t'.H.E = t.H.E := by rw [← ht']; exact hE0
    have hF2 : t'.H.F = t.H.F := by rw [← ht']; exact hF0
    have hD2 : t'.H.D = eset t.H.D ((Pc.loc c s : Nat) : Int) (freeP P k) := by
      rw [← ht']; show eset (fr0 t c ((Pc.loc c s : Nat) : Int) P).H.D _ _ = _; rw [hD0]
    rw [ht']
    clear hx ht' hE0 hF0 hD0
    have hKs : ∀ i, K t' i = K t i := fun i => K_same (by rw [hF2])
    obtain ⟨u1, u2⟩ := U_down (t := t) (t' := t') (d := 1) hc hs (fun v hv => by rw [hD2, eget_eset, if_neg hv]) (by
      rw [usS_some hP, usS_some (t := t') (P := freeP P k) (by rw [hD2, eget_eset, if_pos rfl]), hu])
    have hU : ∀ i, i < 24 → i ≠ c → U t i = U t' i := fun i hi hne => by
      by_cases e : i < 8
      · exact (u2 i e hne).symm
      · rw [U_great (by omega), U_great (by omega)]; exact (hKs i).symm
    have hp : pgsT t' = pgsT t := by
      unfold pgsT
      exact rsum_same 24 (fun i _ => by rw [hKs i])
    have e2 := costT_up (t := t') (t' := t) (show c < 24 by omega) hU u1
    rw [Nat.one_mul] at e2
    exact ⟨costT t', by omega, { len := by rw [hE2, hp]; exact hl, cst := rfl, le := by omega, by' := fun i hi => by rw [hKs i]; exact f.by' i hi }⟩
/-- Free: what it answers, and what it leaves of the cost. -/
theorem FI.free {t : T3} {cost q : Nat} {a : Int} (h : HI t) (f : FI t cost q) : ((freeT t a).2 = 13 ∧ (freeT t a).1 = t) ∨ (freeT t a).2 = 0 ∧ ∃ c cost', (usableR t.H a).1 = (Pc.un c : Int) ∧ c < 24 ∧ cost = cost' + Pc.un c ∧ FI (freeT t a).1 cost' q := by
  have m := fre_cases (a := a) h
  generalize freeT t a = r at m ⊢
  cases m with
  | none hb => exact .inl ⟨rfl, rfl⟩
  | great c s k hb hc h8 hs hk hf =>
    obtain ⟨cost', e, f'⟩ := FI.free_great h f hc h8 hs hf
    exact .inr ⟨rfl, c, cost', by unfold usableR; rw [hb], hc, e, f'⟩
  | small c s k P hb hc hs hf hP hK hk hh =>
    obtain ⟨cost', e, f'⟩ := FI.free_small h f hc hs hf hP hK hk hh
    exact .inr ⟨rfl, c, cost', by unfold usableR; rw [hb], by omega, e, f'⟩
end Few
end Go.Proofs.YtnheibcjcgacpaaGreatDoor
