/- Which blocks of a heap are had, and their bytes, behind each call: plain. | Two heaps of one arena: a call of one, and the other; whose the pages are that are not free: plain. -/
import Derived.Test.YtnheibcjcgacpaaGreatDoorHmv
import Derived.Test.YtnheibcjcgacpaaGreatDoorBlk
set_option linter.unusedVariables false
set_option linter.unusedSimpArgs false
/-! Which blocks of a heap are had, and their bytes, behind each call: plain. -/
namespace Go.Proofs.YtnheibcjcgacpaaGreatDoor
open Go.RowKit Go.ChangeMaps
namespace Hin
open Pgi He Pg
/-! Addresses. -/
theorem blk_in {c k : Nat} (hc : c < 24) (hk : k < Pc.nb c) : k * Pc.un c + Pc.un c ≤ Pc.pgs c * 512 := by
  by_cases h8 : c < 8
  · have h1 : k < Pc.per c := by unfold Pc.nb at hk; rwa [if_pos h8] at hk
    have := blk_fit h8 h1
    rw [pgs1 h8]; omega
  · have h1 : k = 0 := by unfold Pc.nb at hk; rw [if_neg h8] at hk; omega
    subst h1
    unfold Pc.un Pc.pgs
    rw [if_neg h8, if_neg h8]; omega
theorem addr_eq (c s k : Nat) : Pc.addr c s k = Pc.loc c s * 512 + k * Pc.un c := by
  unfold Pc.addr Pc.loc
  rw [Nat.add_mul, Nat.mul_assoc s]; omega
theorem addr_lt {c s k : Nat} (hc : c < 24) (hs : s < Pc.slots c) (hk : k < Pc.nb c) : 131072 * (c + 1) ≤ Pc.addr c s k ∧ Pc.addr c s k + Pc.un c ≤ 131072 * (c + 2) := by
  have h1 := Pc.loc_range hc hs
  have h2 := blk_in hc hk
  rw [addr_eq]; omega
theorem dec_addr {c s k i : Nat} (hc : c < 24) (hs : s < Pc.slots c) (hk : k < Pc.nb c) (hi : i < Pc.un c) : Pc.fc (Pc.addr c s k + i) = c ∧ Pc.fs (Pc.addr c s k + i) = s ∧ Pc.fk (Pc.addr c s k + i) = k := by
  have h1 := addr_lt hc hs hk
  have h2 := blk_in hc hk
  have h3 := Pc.pgs_range hc
  have hfc : Pc.fc (Pc.addr c s k + i) = c := by unfold Pc.fc; omega
  have hr : (Pc.addr c s k + i) % 131072 = s * (Pc.pgs c * 512) + (k * Pc.un c + i) := by
    have e : Pc.addr c s k = 131072 * (c + 1) + s * (Pc.pgs c * 512) + k * Pc.un c := rfl
    omega
  have hm : (s * (Pc.pgs c * 512) + (k * Pc.un c + i)) % (Pc.pgs c * 512) = k * Pc.un c + i := by
    rw [Nat.mul_add_mod', Nat.mod_eq_of_lt (by omega)]
  refine ⟨hfc, ?_, ?_⟩
  · unfold Pc.fs
    rw [hfc, hr]
    exact Nat.div_eq_of_lt_le (by omega) (by rw [Nat.add_mul]; omega)
  · unfold Pc.fk
    rw [hfc, hr, hm]
    exact Nat.div_eq_of_lt_le (by omega) (by rw [Nat.add_mul]; omega)
theorem findR_addr {c s k : Nat} (hc : c < 24) (hs : s < Pc.slots c) (hk : k < Pc.nb c) : Pc.findR ((Pc.addr c s k : Nat) : Int) = some (c, s, k) := by
  have hu := Pc.un_range hc
  obtain ⟨d1, d2, d3⟩ := dec_addr (i := 0) hc hs hk (by omega)
  have h1 := addr_lt hc hs hk
  rw [Nat.add_zero] at d1 d2 d3
  have hb : Pc.Begins (Pc.addr c s k) := by
    unfold Pc.Begins
    rw [d1, d2, d3]
    exact ⟨by omega, by omega, hs, hk, rfl⟩
  unfold Pc.findR
  rw [Int.toNat_natCast, if_pos ⟨Int.natCast_nonneg _, hb⟩, d1, d2, d3]
theorem blk_at {H : HS} {c s k : Nat} (hc : c < 24) (hs : s < Pc.slots c) (hk : k < Pc.nb c) : blk H ((Pc.addr c s k : Nat) : Int) = if hadB H c s k then some (c, s, k) else none := by
  unfold blk
  rw [findR_addr hc hs hk]
theorem addr_inj {c s k c' s' k' : Nat} (hc : c < 24) (hs : s < Pc.slots c) (hk : k < Pc.nb c) (hc' : c' < 24) (hs' : s' < Pc.slots c') (hk' : k' < Pc.nb c') (e : Pc.addr c s k = Pc.addr c' s' k') : c = c' ∧ s = s' ∧ k = k' := by
  have h1 := findR_addr hc hs hk
  rw [e, findR_addr hc' hs' hk'] at h1
  injection h1 with h1
  injection h1 with h1 h2
  injection h2 with h2 h3
  exact ⟨h1.symm, h2.symm, h3.symm⟩
/-- Two blocks have no byte in common. -/
theorem blk_apart2 {c s k c' s' k' i j : Nat} (hc : c < 24) (hs : s < Pc.slots c) (hk : k < Pc.nb c) (hc' : c' < 24) (hs' : s' < Pc.slots c') (hk' : k' < Pc.nb c') (hi : i < Pc.un c) (hj : j < Pc.un c') (e : Pc.addr c s k + i = Pc.addr c' s' k' + j) : c = c' ∧ s = s' ∧ k = k' := by
  obtain ⟨d1, d2, d3⟩ := dec_addr hc hs hk hi
  obtain ⟨e1, e2, e3⟩ := dec_addr hc' hs' hk' hj
  rw [e] at d1 d2 d3
  exact ⟨d1.symm.trans e1, d2.symm.trans e2, d3.symm.trans e3⟩
theorem blk_pg {c s k i : Nat} (hc : c < 24) (hk : k < Pc.nb c) (hi : i < Pc.un c) : (Pc.addr c s k + i) / 512 = Pc.loc c s + (k * Pc.un c + i) / 512 ∧ (Pc.addr c s k + i) % 512 = (k * Pc.un c + i) % 512 ∧ (k * Pc.un c + i) / 512 < Pc.pgs c := by
  have h2 := blk_in hc hk
  rw [addr_eq]
  generalize Pc.loc c s = l
  generalize k * Pc.un c = x at *
  omega
/-! Bytes. -/
def pgc (t : T3) (v : Int) : Bs := cut t.S.B ((Tab.fnd t.H.E v).toNat * 512)
/-- Where a local byte lies. -/
def lad (E : Tab.Prs) (a : Nat) : Nat := (Tab.fnd E ((a / 512 : Nat) : Int)).toNat * 512 + a % 512
def byt (t : T3) (a : Nat) : UInt8 := t.S.B.getD (lad t.H.E a) 0
theorem getD_cut {B : Bs} {b o : Nat} (h : o < 512) : (cut B b).getD o 0 = B.getD (b + o) 0 := by
  rw [List.getD_eq_getElem?_getD, List.getD_eq_getElem?_getD, cut_get, if_pos h]
theorem byt_pg (t : T3) (a : Nat) : byt t a = (pgc t ((a / 512 : Nat) : Int)).getD (a % 512) 0 := by
  unfold byt pgc lad
  rw [getD_cut (Nat.mod_lt _ (by omega))]
theorem byt_blk {t : T3} {c s k i : Nat} (hc : c < 24) (hk : k < Pc.nb c) (hi : i < Pc.un c) : byt t (Pc.addr c s k + i) = (pgc t ((Pc.loc c s + (k * Pc.un c + i) / 512 : Nat) : Int)).getD ((k * Pc.un c + i) % 512) 0 := by
  obtain ⟨h1, h2, h3⟩ := blk_pg (s := s) hc hk hi
  rw [byt_pg, h1, h2]
theorem byt_small {t : T3} {c s k i : Nat} (hc : c < 8) (hk : k < Pc.per c) (hi : i < Pc.un c) : byt t (Pc.addr c s k + i) = (pgc t ((Pc.loc c s : Nat) : Int)).getD (k * Pc.un c + i) 0 := by
  have hf := blk_fit hc hk
  rw [byt_blk (by omega) (by unfold Pc.nb; rw [if_pos hc]; exact hk) hi, Nat.div_eq_of_lt (show k * Pc.un c + i < 512 by omega), Nat.mod_eq_of_lt (show k * Pc.un c + i < 512 by omega), Nat.add_zero]
theorem byt_same {t t' : T3} {c s k i : Nat} (hc : c < 24) (hk : k < Pc.nb c) (hi : i < Pc.un c) (h : ∀ j, j < Pc.pgs c → pgc t' ((Pc.loc c s + j : Nat) : Int) = pgc t ((Pc.loc c s + j : Nat) : Int)) : byt t' (Pc.addr c s k + i) = byt t (Pc.addr c s k + i) := by
  rw [byt_blk hc hk hi, byt_blk hc hk hi, h _ (blk_pg (s := s) hc hk hi).2.2]
theorem pgc_same {t t' : T3} {v : Int} {x : Nat} (hv : eget t.H.E v = some (x : Int)) (hE : eget t'.H.E v = eget t.H.E v) (hc : cut t'.S.B (x * 512) = cut t.S.B (x * 512)) : pgc t' v = pgc t v := by
  unfold pgc
  rw [Tab.fnd_some (hE.trans hv), Tab.fnd_some hv, Int.toNat_natCast]
  exact hc
/-! What is had. -/
theorem had_iff {H : HS} {c s k : Nat} : hadB H c s k = true ↔ (H.F c).getD s false = false ∧ (8 ≤ c ∨ hasB H ((Pc.loc c s : Nat) : Int) k = true) := by
  unfold hadB
  rw [Bool.and_eq_true, Bool.not_eq_true', Bool.or_eq_true, decide_eq_true_eq]
theorem has_nat (P : PG) (k : Nat) : has P (k : Int) = (decide (k < P.S.length) && !(P.S.getD k false)) := by
  unfold has
  rw [Int.toNat_natCast]
  by_cases h : k < P.S.length
  · cases e : P.S.getD k false <;> simp [h]
  · simp [h]
/-- Nothing changes. -/
structure Kept (t t' : T3) : Prop where
  had : ∀ c s k, c < 24 → s < Pc.slots c → k < Pc.nb c → hadB t'.H c s k = hadB t.H c s k
  byt : ∀ c s k i, c < 24 → s < Pc.slots c → k < Pc.nb c → i < Pc.un c → hadB t.H c s k = true → Hin.byt t' (Pc.addr c s k + i) = Hin.byt t (Pc.addr c s k + i)
/-- A block is had from here on. -/
structure Gave (t t' : T3) (c s k : Nat) : Prop where
  hc : c < 24
  hs : s < Pc.slots c
  hk : k < Pc.nb c
  was : hadB t.H c s k = false
  had : ∀ c' s' k', c' < 24 → s' < Pc.slots c' → k' < Pc.nb c' → hadB t'.H c' s' k' = if c' = c ∧ s' = s ∧ k' = k then true else hadB t.H c' s' k'
  zero : ∀ i, i < Pc.un c → Hin.byt t' (Pc.addr c s k + i) = 0
  byt : ∀ c' s' k' i, c' < 24 → s' < Pc.slots c' → k' < Pc.nb c' → i < Pc.un c' → hadB t.H c' s' k' = true → Hin.byt t' (Pc.addr c' s' k' + i) = Hin.byt t (Pc.addr c' s' k' + i)
/-- A block is had no more. -/
structure Gone (t t' : T3) (c s k : Nat) : Prop where
  hc : c < 24
  hs : s < Pc.slots c
  hk : k < Pc.nb c
  was : hadB t.H c s k = true
  had : ∀ c' s' k', c' < 24 → s' < Pc.slots c' → k' < Pc.nb c' → hadB t'.H c' s' k' = if c' = c ∧ s' = s ∧ k' = k then false else hadB t.H c' s' k'
  byt : ∀ c' s' k' i, c' < 24 → s' < Pc.slots c' → k' < Pc.nb c' → i < Pc.un c' → hadB t.H c' s' k' = true → ¬ (c' = c ∧ s' = s ∧ k' = k) → Hin.byt t' (Pc.addr c' s' k' + i) = Hin.byt t (Pc.addr c' s' k' + i)
theorem Kept.refl (t : T3) : Kept t t := ⟨fun _ _ _ _ _ _ => rfl, fun _ _ _ _ _ _ _ _ _ => rfl⟩
theorem Kept.trans {a b c : T3} (h : Kept a b) (k : Kept b c) : Kept a c :=
  ⟨fun x s j h1 h2 h3 => (k.had x s j h1 h2 h3).trans (h.had x s j h1 h2 h3), fun x s j i h1 h2 h3 h4 h5 => (k.byt x s j i h1 h2 h3 h4 (by rw [h.had x s j h1 h2 h3]; exact h5)).trans (h.byt x s j i h1 h2 h3 h4 h5)⟩
theorem Kept.gave {a b d : T3} {c s k : Nat} (h : Kept a b) (g : Gave b d c s k) : Gave a d c s k :=
  ⟨g.hc, g.hs, g.hk, (h.had c s k g.hc g.hs g.hk).symm.trans g.was, fun x y z h1 h2 h3 => by rw [g.had x y z h1 h2 h3, h.had x y z h1 h2 h3], g.zero, fun x y z i h1 h2 h3 h4 h5 => (g.byt x y z i h1 h2 h3 h4 (by rw [h.had x y z h1 h2 h3]; exact h5)).trans (h.byt x y z i h1 h2 h3 h4 h5)⟩
theorem Gone.kept {a b d : T3} {c s k : Nat} (g : Gone a b c s k) (h : Kept b d) : Gone a d c s k :=
  ⟨g.hc, g.hs, g.hk, g.was, fun x y z h1 h2 h3 => by rw [h.had x y z h1 h2 h3, g.had x y z h1 h2 h3], fun x y z i h1 h2 h3 h4 h5 h6 => (h.byt x y z i h1 h2 h3 h4 (by rw [g.had x y z h1 h2 h3, if_neg h6]; exact h5)).trans (g.byt x y z i h1 h2 h3 h4 h5 h6)⟩
theorem HIx.page {u z : Int} {t : T3} (h : HIx u z t) {c s j : Nat} (hc : c < 24) (hs : s < Pc.slots c) (hf : (t.H.F c).getD s false = false) (hj : j < Pc.pgs c) : ∃ x : Nat, eget t.H.E ((Pc.loc c s + j : Nat) : Int) = some (x : Int) ∧ x < t.M.P ∧ fr t.M x = false := by
  obtain ⟨p, hp⟩ := Option.isSome_iff_exists.1 ((h.dm c s j hc hs hj).2 hf)
  obtain ⟨x, rfl, h1, h2⟩ := h.ti.tk _ _ hp
  exact ⟨x, hp, h1, h2⟩
theorem loc_ne2 {c s c' s' : Nat} (hc : c < 24) (hs : s < Pc.slots c) (hc' : c' < 24) (hs' : s' < Pc.slots c') (h : ¬ (c' = c ∧ s' = s)) {j j' : Nat} (hj : j < Pc.pgs c) (hj' : j' < Pc.pgs c') : ((Pc.loc c' s' + j' : Nat) : Int) ≠ ((Pc.loc c s + j : Nat) : Int) := fun e => by
  have := loc_inj hc' hs' hj' hc hs hj (by omega)
  exact h ⟨this.1, this.2.1⟩
theorem nb8 {c : Nat} (h : c < 8) : Pc.nb c = Pc.per c := by unfold Pc.nb; rw [if_pos h]
theorem nb_great {c : Nat} (h : 8 ≤ c) : Pc.nb c = 1 := by unfold Pc.nb; rw [if_neg (by omega)]
/-- A page gives out a block. -/
theorem mal1_gave {t : T3} {u : Int} {c s : Nat} {P : PG} (h : HIx u (-1) t) (hc : c < 8) (hs : s < Pc.slots c) (hP : eget t.H.D ((Pc.loc c s : Nat) : Int) = some P) (hf : full P = false) : Gave t (mal1 t c ((Pc.loc c s : Nat) : Int) P) c s (alK P) := by
  obtain ⟨c0, s0, x, a1, a2, a3, a4, a5, a6, a7, a8, a9, a10, a11⟩ := h.pg hP
  obtain ⟨rfl, rfl⟩ := loc_inj0 (c := c) (c' := c0) (by omega) hs (by omega) a2 (by omega)
  obtain ⟨m1, m2, m3, m4, m5, m6, m7⟩ := mal1_S t c ((Pc.loc c s : Nat) : Int) P
  obtain ⟨r1, r2, r3, r4, r5, r6⟩ := a8.al hf
  rw [a5] at r2 r5 r6
  have hsl := a8.sl
  rw [a5] at hsl
  have hcx : cut (alS P t.S).B (x * 512) = alC (cut t.S.B (x * 512)) P := by rw [← a7]; exact cut_al a8 a9
  have hco : ∀ y, y ≠ x → cut (alS P t.S).B (y * 512) = cut t.S.B (y * 512) := fun y hy => al_out a8 a9 (by rw [a7]; have := page_apart hy; omega)
  rw [a7] at r1 r5 r6
  have hpv : pgc (mal1 t c ((Pc.loc c s : Nat) : Int) P) ((Pc.loc c s : Nat) : Int) = alC (cut t.S.B (x * 512)) P := by
    unfold pgc
    rw [m4, m1, Tab.fnd_some a6, Int.toNat_natCast]; exact hcx
  have hpv0 : pgc t ((Pc.loc c s : Nat) : Int) = cut t.S.B (x * 512) := by
    unfold pgc
    rw [Tab.fnd_some a6, Int.toNat_natCast]
  have hhas : ∀ v k, hasB (mal1 t c ((Pc.loc c s : Nat) : Int) P).H v k = if v = ((Pc.loc c s : Nat) : Int) then has (alP P) k else hasB t.H v k := fun v k => by
    unfold hasB
    rw [m7, eget_eset]
    by_cases e : v = ((Pc.loc c s : Nat) : Int)
    · rw [if_pos e, if_pos e]
    · rw [if_neg e, if_neg e]; try rfl
  have hh1 : ∀ k : Nat, k < Pc.per c → has (alP P) k = if k = alK P then true else has P k := fun k hk => by
    rw [has_nat, has_nat, r4, List.length_set]
    by_cases e : k = alK P
    · rw [if_pos e, e, Sh.getD_set _ _ _ _ (by rw [hsl]; exact r2), if_pos rfl]
      simp [hsl, r2]
    · rw [if_neg e, getD_ne e]
  have hhP : ∀ k, hasB t.H ((Pc.loc c s : Nat) : Int) k = has P k := fun k => by unfold hasB; rw [hP]
  refine ⟨by omega, hs, by rw [nb8 hc]; exact r2, ?_, fun c' s' k' h1 h2 h3 => ?_, fun i hi => ?_, fun c' s' k' i h1 h2 h3 h4 h5 => ?_⟩
  · unfold hadB
    rw [hhP, has_nat, r3]
    simp; omega
  · unfold hadB
    rw [m6, hhas]
    by_cases e : c' = c ∧ s' = s
    · obtain ⟨rfl, rfl⟩ := e
      rw [if_pos rfl, hh1 k' (by rw [nb8 hc] at h3; exact h3), hhP]
      by_cases e2 : k' = alK P
      · rw [if_pos e2, if_pos ⟨rfl, rfl, e2⟩, a3]; simp
      · rw [if_neg e2, if_neg (fun q => e2 q.2.2)]
    · rw [if_neg (fun q => e ?_), if_neg (fun q => e ⟨q.1, q.2.1⟩)]
      exact loc_inj0 h1 h2 (by omega) hs (by omega)
  · rw [byt_small hc r2 hi, hpv]
    exact r5 i hi
  · by_cases e : c' = c ∧ s' = s
    · obtain ⟨rfl, rfl⟩ := e
      have h3' : k' < Pc.per c' := by rw [nb8 hc] at h3; exact h3
      rw [byt_small hc h3' h4, byt_small hc h3' h4, hpv, hpv0]
      refine r6 k' (fun q => ?_) i h4
      have h6 := (had_iff.1 h5).2.resolve_left (by omega)
      rw [hhP, has_nat, q, r3] at h6
      simp at h6
    · refine byt_same h1 h3 h4 (fun j hj => ?_)
      obtain ⟨y, y1, y2, y3⟩ := h.page h1 h2 (had_iff.1 h5).1 hj
      refine pgc_same y1 (by rw [m4]) ?_
      rw [m1]
      refine hco y (fun q => ?_)
      have := h.ti.inj y1 (by rw [q]; exact a6)
      exact loc_ne2 (j := 0) (by omega) hs h1 h2 e (by rw [pgs1 hc]; omega) hj (by rw [Nat.add_zero]; exact this)
/-- A slot is taken with its pages: the others are as they were. -/
structure Slot (t t1 : T3) (c s : Nat) : Prop where
  had : ∀ c' s' k', c' < 24 → s' < Pc.slots c' → ¬ (c' = c ∧ s' = s) → hadB t1.H c' s' k' = hadB t.H c' s' k'
  f : (t1.H.F c).getD s false = false
  zero : ∀ j, j < Pc.pgs c → pgc t1 ((Pc.loc c s + j : Nat) : Int) = List.replicate 512 0
  byt : ∀ c' s' k' i, c' < 24 → s' < Pc.slots c' → k' < Pc.nb c' → i < Pc.un c' → hadB t.H c' s' k' = true → Hin.byt t1 (Pc.addr c' s' k' + i) = Hin.byt t (Pc.addr c' s' k' + i)
theorem took_slot {t t1 : T3} {c s : Nat} {xs : Nat → Nat} (h : HI t) (hc : c < 24) (hs : s < Pc.slots c) (hf : (t.H.F c).getD s false = true) (k : Took (slotT t c s) t1 (Pc.loc c s) (Pc.pgs c) xs) : Slot t t1 c s := by
  obtain ⟨d1, d2, d3, d4⟩ := k.D
  have hlen : s < (t.H.F c).length := by rw [h.fl c hc]; exact hs
  have hF : ∀ c' s', (t1.H.F c').getD s' false = if c' = c ∧ s' = s then false else (t.H.F c').getD s' false := fun c' s' => by
    rw [d2]; exact upl_getD hlen
  have hD : t1.H.D = t.H.D := d1
  refine ⟨fun c' s' k' h1 h2 e => ?_, by rw [hF, if_pos ⟨rfl, rfl⟩], fun j hj => ?_, fun c' s' k' i h1 h2 h3 h4 h5 => ?_⟩
  · unfold hadB hasB
    rw [hF, if_neg e, hD]
  · obtain ⟨x1, x2, x3, x4⟩ := k.x j hj
    unfold pgc
    rw [Tab.fnd_some x4, Int.toNat_natCast, k.S]
    exact h.ti.zf _ x1 x2
  · refine byt_same h1 h3 h4 (fun j hj => ?_)
    obtain ⟨y, y1, y2, y3⟩ := h.page h1 h2 (had_iff.1 h5).1 hj
    have hne : ¬ (c' = c ∧ s' = s) := fun q => by
      have := (had_iff.1 h5).1
      rw [q.1, q.2, hf] at this; cases this
    exact pgc_same y1 (k.o _ (fun i hi => loc_ne2 hc hs h1 h2 hne hi hj)) (by rw [k.S]; rfl)
theorem getD_zero (n i : Nat) : (List.replicate n (0 : UInt8)).getD i 0 = 0 := by
  rw [List.getD_eq_getElem?_getD, List.getElem?_replicate]
  split <;> rfl
theorem great_gave {t t1 : T3} {c s : Nat} {xs : Nat → Nat} (h : HI t) (hc : c < 24) (h8 : 8 ≤ c) (hs : s < Pc.slots c) (hf : (t.H.F c).getD s false = true) (k : Took (slotT t c s) t1 (Pc.loc c s) (Pc.pgs c) xs) : Gave t t1 c s 0 := by
  have q := took_slot h hc hs hf k
  have h0 : 0 < Pc.nb c := by rw [nb_great h8]; omega
  refine ⟨hc, hs, h0, ?_, fun c' s' k' h1 h2 h3 => ?_, fun i hi => ?_, q.byt⟩
  · unfold hadB; rw [hf]; rfl
  · by_cases e : c' = c ∧ s' = s
    · obtain ⟨rfl, rfl⟩ := e
      rw [if_pos ⟨rfl, rfl, by rw [nb_great h8] at h3; omega⟩]
      exact had_iff.2 ⟨q.f, .inl h8⟩
    · rw [if_neg (fun w => e ⟨w.1, w.2.1⟩)]
      exact q.had c' s' k' h1 h2 e
  · rw [byt_blk hc h0 hi, q.zero _ (blk_pg (s := s) hc h0 hi).2.2]
    exact getD_zero _ _
theorem new_kept {t t1 : T3} {c s : Nat} {xs : Nat → Nat} (h : HI t) (hc : c < 8) (hs : s < Pc.slots c) (hf : (t.H.F c).getD s false = true) (k : Took (slotT t c s) t1 (Pc.loc c s) (Pc.pgs c) xs) : Kept t (new1 t1 c (Pc.loc c s) (xs 0)) := by
  have q := took_slot h (by omega) hs hf k
  have hhas : ∀ v k, hasB (new1 t1 c (Pc.loc c s) (xs 0)).H v k = if v = ((Pc.loc c s : Nat) : Int) then has (newP (xs 0 * 512) c) k else hasB t1.H v k := fun v k => by
    unfold hasB
    show (match eget (eset t1.H.D _ _) v with | some P => has P k | none => false) = _
    rw [eget_eset]
    by_cases e : v = ((Pc.loc c s : Nat) : Int)
    · rw [if_pos e, if_pos e]
    · rw [if_neg e, if_neg e]; try rfl
  refine ⟨fun c' s' k' h1 h2 h3 => ?_, fun c' s' k' i h1 h2 h3 h4 h5 => q.byt c' s' k' i h1 h2 h3 h4 h5⟩
  by_cases e : c' = c ∧ s' = s
  · obtain ⟨rfl, rfl⟩ := e
    have e1 : hadB t.H c' s' k' = false := by unfold hadB; rw [hf]; rfl
    rw [e1]
    unfold hadB
    rw [hhas, if_pos rfl, has_nat]
    have : (newP (xs 0 * 512) c').S.getD k' false = true := getD_rep _ _ (by rw [nb8 hc] at h3; exact h3)
    rw [this]
    simp; omega
  · rw [← q.had c' s' k' h1 h2 e]
    unfold hadB
    rw [hhas, if_neg (fun w => e (loc_inj0 h1 h2 (by omega) hs (by omega)))]
    rfl
/-- Malloc, as what is had. -/
theorem malloc_gave {t : T3} {n : Int} (h : HI t) : ((mallocT t n).2.2 ≠ 0 ∧ (mallocT t n).1 = t ∧ (mallocT t n).2.1 = 0 ∧ ((mallocT t n).2.2 = 2 ∧ Cl.kind n = -1 ∨ (mallocT t n).2.2 = 13 ∧ 0 ≤ Cl.kind n)) ∨ ((mallocT t n).2.2 = 0 ∧ ∃ c s k : Nat, Cl.kind n = (c : Int) ∧ (mallocT t n).2.1 = ((Pc.addr c s k : Nat) : Int) ∧ Gave t (mallocT t n).1 c s k) := by
  have m := mal_cases (n := n) h
  generalize mallocT t n = r at m
  cases m with
  | bad h1 => exact .inl ⟨(by show (2 : Int) ≠ 0; omega), rfl, rfl, .inl ⟨rfl, h1⟩⟩
  | full c h1 h2 h3 h4 => exact .inl ⟨(by show (13 : Int) ≠ 0; omega), rfl, rfl, .inr ⟨rfl, by omega⟩⟩
  | great c s xs h1 h2 h8 ho hs hf hl hS k => exact .inr ⟨rfl, c, s, 0, h1, rfl, great_gave h h2 h8 hs hf k⟩
  | new c s xs h1 h8 ho hL hs hf hl hS k hx =>
    refine .inr ⟨rfl, c, s, 0, h1, rfl, (new_kept h h8 hs hf k).gave ?_⟩
    have q := new_hi h h8 hs hf k hL
    exact mal1_gave q h8 hs (by show eget (eset (holdT t c).H.D _ _) _ = _; rw [eget_eset, if_pos rfl]) (full_new h8)
  | old c s r P h1 h8 hs hL hP hk hf => exact .inr ⟨rfl, c, s, alK P, h1, rfl, mal1_gave h h8 hs hP hf⟩
/-! Free. -/
theorem used_zero {P : PG} (h : used P = 0) {k : Nat} (hk : k < P.S.length) : P.S.getD k false = true := by
  cases e : P.S.getD k false with
  | true => rfl
  | false =>
    have h1 := Sh.frees_len_true hk e
    have h2 := Sh.frees_le (P.S.set k true)
    rw [List.length_set] at h2
    unfold used at h
    omega
theorem used_pos {P : PG} (h : used P ≠ 0) : ∃ k, k < P.S.length ∧ P.S.getD k false = false := by
  refine Classical.byContradiction (fun hn => h ?_)
  have hall : Sh.frees P.S = List.range P.S.length := by
    unfold Sh.frees
    refine List.filter_eq_self.2 (fun k hk => ?_)
    cases e : P.S.getD k false with
    | true => rfl
    | false => exact absurd ⟨k, List.mem_range.1 hk, e⟩ hn
  unfold used
  rw [hall, List.length_range]; omega
theorem rel_slot {t : T3} {c s : Nat} {z : Int} (h : HIx (-1) z t) (hc : c < 24) (hs : s < Pc.slots c) (hf : (t.H.F c).getD s false = false) (hz : (c < 8 → z = ((Pc.loc c s : Nat) : Int) ∧ eget t.H.D z = none) ∧ (8 ≤ c → z = -1)) :
    (∀ c' s' k', c' < 24 → s' < Pc.slots c' → hadB (rel3 t c s).H c' s' k' = if c' = c ∧ s' = s then false else hadB t.H c' s' k') ∧ (∀ c' s' k' i, c' < 24 → s' < Pc.slots c' → k' < Pc.nb c' → i < Pc.un c' → hadB t.H c' s' k' = true → ¬ (c' = c ∧ s' = s) → byt (rel3 t c s) (Pc.addr c' s' k' + i) = byt t (Pc.addr c' s' k' + i)) := by
  obtain ⟨-, k⟩ := rel_hi h hc hs hf hz
  obtain ⟨d1, d2, d3, d4⟩ := k.D
  have hlen : s < (t.H.F c).length := by rw [h.fl c hc]; exact hs
  have et : rel3 t c s = { letN t (Pc.loc c s) (Pc.pgs c) with H := { (letN t (Pc.loc c s) (Pc.pgs c)).H with F := upl t.H.F c ((t.H.F c).set s true) } } := by
    unfold rel3 Sh.giveS
    rw [d2, if_pos ⟨by omega, by omega⟩, Int.toNat_natCast]
  rw [et]
  generalize letN t (Pc.loc c s) (Pc.pgs c) = t1 at *
  have hF : ∀ c' s', ((upl t.H.F c ((t.H.F c).set s true)) c').getD s' false = if c' = c ∧ s' = s then true else (t.H.F c').getD s' false := fun c' s' => upl_getD hlen
  refine ⟨fun c' s' k' h1 h2 => ?_, fun c' s' k' i h1 h2 h3 h4 h5 e => byt_same h1 h3 h4 (fun j hj => ?_)⟩
  · unfold hadB hasB
    show (!((upl t.H.F c ((t.H.F c).set s true)) c').getD s' false && _) = _
    rw [hF]
    split
    · rfl
    · show (_ && (_ || match eget t1.H.D _ with | some P => has P _ | none => false)) = _
      rw [d1]; try rfl
  · obtain ⟨y, y1, y2, y3⟩ := h.page h1 h2 (had_iff.1 h5).1 hj
    refine pgc_same y1 (k.o _ (fun i hi => loc_ne2 hc hs h1 h2 e hi hj)) (k.c y (fun i hi q => ?_))
    exact loc_ne2 hc hs h1 h2 e hi hj (h.ti.inj y1 q)
theorem fr1_gone {t : T3} {c s k : Nat} {P : PG} (h : HI t) (hc : c < 8) (hs : s < Pc.slots c) (hP : eget t.H.D ((Pc.loc c s : Nat) : Int) = some P) (hk : k < Pc.per c) (hh : P.S.getD k false = false) : Gone t (fr1 (fr0 t c ((Pc.loc c s : Nat) : Int) P) ((Pc.loc c s : Nat) : Int) P k) c s k := by
  obtain ⟨c0, s0, x, a1, a2, a3, a4, a5, a6, a7, a8, a9, a10, a11⟩ := h.pg hP
  obtain ⟨rfl, rfl⟩ := loc_inj0 (c := c) (c' := c0) (by omega) hs (by omega) a2 (by omega)
  have hkP : k < Pc.per P.kind := by rw [a5]; exact hk
  obtain ⟨r1, r2⟩ := a8.fr1 hkP hh
  have hsl := a8.sl
  rw [a5] at hsl r2
  have hcx : cut (freeS P t.S k).B (x * 512) = freeC (cut t.S.B (x * 512)) P k := by rw [← a7]; exact cut_free a8.k8 a9 hkP
  have hco : ∀ y, y ≠ x → cut (freeS P t.S k).B (y * 512) = cut t.S.B (y * 512) := fun y hy => free_out a8.k8 a9 hkP (by rw [a7]; have := page_apart hy; omega)
  rw [a7] at r2
  have e0 : (fr0 t c ((Pc.loc c s : Nat) : Int) P).S = t.S ∧ (fr0 t c ((Pc.loc c s : Nat) : Int) P).H.D = t.H.D ∧ (fr0 t c ((Pc.loc c s : Nat) : Int) P).H.F = t.H.F ∧ (fr0 t c ((Pc.loc c s : Nat) : Int) P).H.E = t.H.E := by
    unfold fr0
    cases full P <;> exact ⟨rfl, rfl, rfl, rfl⟩
  obtain ⟨f1, f2, f3, f4⟩ := e0
  generalize fr0 t c ((Pc.loc c s : Nat) : Int) P = t0 at *
  have hhas : ∀ v j, hasB (fr1 t0 ((Pc.loc c s : Nat) : Int) P k).H v j = if v = ((Pc.loc c s : Nat) : Int) then has (freeP P k) j else hasB t.H v j := fun v j => by
    unfold hasB
    show (match eget (eset t0.H.D _ _) v with | some P => has P j | none => false) = _
    rw [eget_eset, f2]
    by_cases e : v = ((Pc.loc c s : Nat) : Int)
    · rw [if_pos e, if_pos e]
    · rw [if_neg e, if_neg e]; try rfl
  have hh1 : ∀ j : Nat, j < Pc.per c → has (freeP P k) j = if j = k then false else has P j := fun j hj => by
    rw [has_nat, has_nat]
    show (decide (j < (P.S.set k true).length) && !((P.S.set k true).getD j false)) = _
    rw [List.length_set]
    by_cases e : j = k
    · rw [if_pos e, e, Sh.getD_set _ _ _ _ (by rw [hsl]; exact hk), if_pos rfl]; simp
    · rw [if_neg e, getD_ne e]
  have hhP : ∀ j, hasB t.H ((Pc.loc c s : Nat) : Int) j = has P j := fun j => by unfold hasB; rw [hP]
  refine ⟨by omega, hs, by rw [nb8 hc]; exact hk, ?_, fun c' s' k' h1 h2 h3 => ?_, fun c' s' k' i h1 h2 h3 h4 h5 h6 => ?_⟩
  · refine had_iff.2 ⟨a3, .inr ?_⟩
    rw [hhP, has_nat, hh, hsl]; simp [hk]
  · unfold hadB
    show (!(t0.H.F c').getD s' false && _) = _
    rw [f3, hhas]
    by_cases e : c' = c ∧ s' = s
    · obtain ⟨rfl, rfl⟩ := e
      rw [if_pos rfl, hh1 k' (by rw [nb8 hc] at h3; exact h3), hhP]
      by_cases e2 : k' = k
      · rw [if_pos e2, if_pos ⟨rfl, rfl, e2⟩]; simp; intro _; omega
      · rw [if_neg e2, if_neg (fun q => e2 q.2.2)]
    · rw [if_neg (fun q => e ?_), if_neg (fun q => e ⟨q.1, q.2.1⟩)]
      exact loc_inj0 h1 h2 (by omega) hs (by omega)
  · by_cases e : c' = c ∧ s' = s
    · obtain ⟨rfl, rfl⟩ := e
      have h3' : k' < Pc.per c' := by rw [nb8 hc] at h3; exact h3
      rw [byt_small hc h3' h4, byt_small hc h3' h4]
      have p1 : pgc (fr1 t0 ((Pc.loc c' s' : Nat) : Int) P k) ((Pc.loc c' s' : Nat) : Int) = freeC (cut t.S.B (x * 512)) P k := by
        unfold pgc
        show cut (freeS P t0.S k).B ((Tab.fnd t0.H.E _).toNat * 512) = _
        rw [f4, f1, Tab.fnd_some a6, Int.toNat_natCast]; exact hcx
      have p2 : pgc t ((Pc.loc c' s' : Nat) : Int) = cut t.S.B (x * 512) := by
        unfold pgc
        rw [Tab.fnd_some a6, Int.toNat_natCast]
      rw [p1, p2]
      exact r2 k' (fun q => h6 ⟨rfl, rfl, q⟩) i h4
    · refine byt_same h1 h3 h4 (fun j hj => ?_)
      obtain ⟨y, y1, y2, y3⟩ := h.page h1 h2 (had_iff.1 h5).1 hj
      refine pgc_same y1 (by show eget t0.H.E _ = _; rw [f4]) ?_
      show cut (freeS P t0.S k).B _ = _
      rw [f1]
      refine hco y (fun q => ?_)
      have := h.ti.inj y1 (by rw [q]; exact a6)
      exact loc_ne2 (j := 0) (by omega) hs h1 h2 e (by rw [pgs1 hc]; omega) hj (by rw [Nat.add_zero]; exact this)
theorem free3_gone {t : T3} {c s k : Nat} {P : PG} (h : HI t) (h8 : c < 8) (hs : s < Pc.slots c) (hf : (t.H.F c).getD s false = false) (hP : eget t.H.D ((Pc.loc c s : Nat) : Int) = some P) (hk : k < Pc.per c) (hh : P.S.getD k false = false) : Gone t (free3 t c s (Pc.loc c s) P k) c s k := by
  have q := fre_hi h h8 hs hP hk hh
  have g := fr1_gone h h8 hs hP hk hh
  unfold free3
  have hD : ∀ Q, eget (fr1 (fr0 t c ((Pc.loc c s : Nat) : Int) P) ((Pc.loc c s : Nat) : Int) P k).H.D ((Pc.loc c s : Nat) : Int) = some Q → Q = freeP P k := fun Q hQ => by
    have hQ : eget (eset _ _ _) _ = some Q := hQ
    rw [eget_eset, if_pos rfl] at hQ
    injection hQ with hQ; exact hQ.symm
  split
  · rename_i hu
    have q2 := del_hi (P := P) q h8 hs
    have hF : (fr2 (fr1 (fr0 t c ((Pc.loc c s : Nat) : Int) P) ((Pc.loc c s : Nat) : Int) P k) c ((Pc.loc c s : Nat) : Int)).H.F = t.H.F := by
      unfold fr2 fr1 fr0
      cases full P <;> rfl
    obtain ⟨z1, z2⟩ := rel_slot q2 (by omega) hs (by rw [hF]; exact hf) ⟨fun _ => ⟨rfl, by show eget (edel _ _) _ = none; rw [eget_edel, if_pos rfl]⟩, fun e => by omega⟩
    refine g.kept ?_
    obtain ⟨t1, ht1⟩ : ∃ t1, fr1 (fr0 t c ((Pc.loc c s : Nat) : Int) P) ((Pc.loc c s : Nat) : Int) P k = t1 := ⟨_, rfl⟩
    have hz : ∀ k', hadB t1.H c s k' = false := fun k' => by
      cases e : hadB t1.H c s k' with
      | false => rfl
      | true =>
        have := (had_iff.1 e).2.resolve_left (by omega)
        unfold hasB at this
        have h1 : eget t1.H.D ((Pc.loc c s : Nat) : Int) = some (freeP P k) := by
          rw [← ht1]
          show eget (eset _ _ _) _ = _
          rw [eget_eset, if_pos rfl]
        rw [h1] at this
        dsimp only at this
        rw [has_nat, Bool.and_eq_true, decide_eq_true_eq] at this
        rw [used_zero hu this.1] at this
        cases this.2
    have hfr2 : ∀ c' s' k', c' < 24 → s' < Pc.slots c' → ¬ (c' = c ∧ s' = s) → hadB (fr2 t1 c ((Pc.loc c s : Nat) : Int)).H c' s' k' = hadB t1.H c' s' k' := fun c' s' k' h1 h2 e => by
      unfold hadB hasB
      show (_ && (_ || match eget (edel t1.H.D _) _ with | some P => has P _ | none => false)) = _
      rw [eget_edel, if_neg (fun w => e (loc_inj0 h1 h2 (by omega) hs (by omega)))]
      rfl
    rw [ht1] at z1 z2 ⊢
    refine ⟨fun c' s' k' h1 h2 h3 => ?_, fun c' s' k' i h1 h2 h3 h4 h5 => ?_⟩
    · rw [z1 c' s' k' h1 h2]
      split
      · rename_i e; rw [e.1, e.2, hz]
      · rename_i e; exact hfr2 c' s' k' h1 h2 e
    · have e : ¬ (c' = c ∧ s' = s) := fun w => by rw [w.1, w.2, hz] at h5; cases h5
      exact z2 c' s' k' i h1 h2 h3 h4 (by rw [hfr2 c' s' k' h1 h2 e]; exact h5) e
  · exact g
/-- Free, as what is had. -/
theorem free_gone {t : T3} {a : Int} (h : HI t) : (blk t.H a = none ∧ (freeT t a).1 = t ∧ (freeT t a).2 = 13) ∨ ∃ c s k, blk t.H a = some (c, s, k) ∧ a = ((Pc.addr c s k : Nat) : Int) ∧ (freeT t a).2 = 0 ∧ Gone t (freeT t a).1 c s k := by
  have m := fre_cases (a := a) h
  generalize freeT t a = r at m
  cases m with
  | none hb => exact .inl ⟨hb, rfl, rfl⟩
  | great c s k hb hc h8 hs hk hf =>
    obtain ⟨b1, b2, b3, b4, b5, b6⟩ := blk_some h hb
    obtain ⟨z1, z2⟩ := rel_slot h hc hs hf ⟨fun e => by omega, fun _ => rfl⟩
    refine .inr ⟨c, s, k, hb, b4.symm, rfl, hc, hs, b3, had_iff.2 ⟨hf, .inl h8⟩, fun c' s' k' h1 h2 h3 => ?_, fun c' s' k' i h1 h2 h3 h4 h5 h6 => ?_⟩
    · rw [z1 c' s' k' h1 h2]
      by_cases e : c' = c ∧ s' = s
      · obtain ⟨rfl, rfl⟩ := e
        rw [nb_great h8] at h3
        rw [if_pos ⟨rfl, rfl⟩, if_pos ⟨rfl, rfl, by omega⟩]
      · rw [if_neg e, if_neg (fun w => e ⟨w.1, w.2.1⟩)]
    · refine z2 c' s' k' i h1 h2 h3 h4 h5 (fun w => h6 ⟨w.1, w.2, ?_⟩)
      rw [w.1, nb_great h8] at h3
      omega
  | small c s k P hb hc hs hf hP hK hk hh =>
    obtain ⟨b1, b2, b3, b4, b5, b6⟩ := blk_some h hb
    exact .inr ⟨c, s, k, hb, b4.symm, rfl, free3_gone h hc hs hf hP hk hh⟩
/-- No block is had: no page is held. -/
theorem none_had {t : T3} (h : HI t) (hn : ∀ c s k, c < 24 → s < Pc.slots c → k < Pc.nb c → hadB t.H c s k = false) : t.H.E = [] := by
  refine nil_of_none (fun v => ?_)
  cases e : eget t.H.E v with
  | none => rfl
  | some p =>
    exfalso
    obtain ⟨c, s, i, h1, h2, h3, rfl⟩ := h.dk v (by rw [e]; rfl)
    have hf := (h.dm c s i h1 h2 h3).1 (by rw [e]; rfl)
    by_cases h8 : c < 8
    · obtain ⟨P, hP⟩ := Option.isSome_iff_exists.1 (h.ds c s h8 h2 hf (by omega))
      obtain ⟨c0, s0, x, a1, a2, a3, a4, a5, a6, a7, a8, a9⟩ := h.dd _ P hP
      obtain ⟨rfl, rfl⟩ := loc_inj0 (c := c) (c' := c0) h1 h2 (by omega) a2 (by omega)
      obtain ⟨k, k1, k2⟩ := used_pos (a9.resolve_left (by omega))
      have := hn c s k h1 h2 (by rw [nb8 h8, ← a5, ← a8.sl]; exact k1)
      have h5 : hadB t.H c s k = true := had_iff.2 ⟨hf, .inr (by unfold hasB; rw [hP]; dsimp only; rw [has_nat, k2]; simp [k1])⟩
      rw [h5] at this; cases this
    · have := hn c s 0 h1 h2 (by rw [nb_great (by omega)]; omega)
      rw [had_iff.2 ⟨hf, .inl (by omega)⟩] at this; cases this
/-! Blocks. -/
theorem mem_blocks {H : HS} {a : Int} : a ∈ blocksL H ↔ ∃ c s k, c < 24 ∧ s < Pc.slots c ∧ k < Pc.nb c ∧ a = ((Pc.addr c s k : Nat) : Int) ∧ hadB H c s k = true := by
  unfold blocksL bl1
  rw [List.mem_flatMap]
  constructor
  · rintro ⟨c, h1, h2⟩
    unfold bl2 at h2
    obtain ⟨s, h3, h4⟩ := List.mem_flatMap.1 h2
    split at h4
    · simp at h4
    · rename_i hF
      unfold bl3 at h4
      obtain ⟨k, h5, rfl⟩ := List.mem_map.1 h4
      obtain ⟨h6, h7⟩ := List.mem_filter.1 h5
      refine ⟨c, s, k, List.mem_range.1 h1, List.mem_range.1 h3, List.mem_range.1 h6, rfl, ?_⟩
      unfold hadB
      unfold hadK at h7
      rw [h7]
      simp at hF
      simp [hF]
  · rintro ⟨c, s, k, h1, h2, h3, rfl, h4⟩
    refine ⟨c, List.mem_range.2 h1, ?_⟩
    unfold bl2
    refine List.mem_flatMap.2 ⟨s, List.mem_range.2 h2, ?_⟩
    obtain ⟨h5, h6⟩ := had_iff.1 h4
    rw [if_neg (by rw [h5]; simp)]
    unfold bl3
    refine List.mem_map.2 ⟨k, List.mem_filter.2 ⟨List.mem_range.2 h3, ?_⟩, rfl⟩
    unfold hadK
    simpa using h6
theorem blocks_blk {H : HS} {a : Int} (h : a ∈ blocksL H) : ∃ c s k, blk H a = some (c, s, k) ∧ c < 24 ∧ s < Pc.slots c ∧ k < Pc.nb c ∧ a = ((Pc.addr c s k : Nat) : Int) := by
  obtain ⟨c, s, k, h1, h2, h3, rfl, h4⟩ := mem_blocks.1 h
  exact ⟨c, s, k, by rw [blk_at h1 h2 h3, h4]; rfl, h1, h2, h3, rfl⟩
theorem pw_flat {α β : Type} {r : β → β → Prop} (f : α → List β) : ∀ (L : List α), (∀ a ∈ L, (f a).Pairwise r) → L.Pairwise (fun a b => ∀ x ∈ f a, ∀ y ∈ f b, r x y) → (L.flatMap f).Pairwise r
  | [], _, _ => by simp
  | a :: L, h1, h2 => by
    rw [List.pairwise_cons] at h2
    rw [List.flatMap_cons, List.pairwise_append]
    refine ⟨h1 a List.mem_cons_self, pw_flat f L (fun b hb => h1 b (List.mem_cons_of_mem _ hb)) h2.2, fun x hx y hy => ?_⟩
    obtain ⟨b, hb, hy⟩ := List.mem_flatMap.1 hy
    exact h2.1 b hb x hx y hy
/-- Blocks are told in rising order. -/
theorem blocks_up (H : HS) : (blocksL H).Pairwise (fun a b => a < b) := by
  have hr : ∀ n, (List.range n).Pairwise (fun a b => a < b) := fun n => List.pairwise_lt_range
  unfold blocksL bl1
  refine pw_flat _ _ (fun c hc => ?_) ((hr 24).imp_of_mem (fun {c d} hc hd hcd x hx y hy => ?_))
  · have hc := List.mem_range.1 hc
    unfold bl2
    refine pw_flat _ _ (fun s hs => ?_) ((hr _).imp_of_mem (fun {s u} hs hu hsu x hx y hy => ?_))
    · split
      · exact List.Pairwise.nil
      · unfold bl3
        rw [List.pairwise_map]
        refine ((hr _).filter _).imp (fun {a b} hab => ?_)
        have hu := Pc.un_range hc
        have h1 := Nat.mul_le_mul_right (Pc.un c) (show a + 1 ≤ b from hab)
        rw [Nat.add_mul, Nat.one_mul] at h1
        unfold Pc.addr
        omega
    · have hs := List.mem_range.1 hs
      have hu := List.mem_range.1 hu
      split at hx
      · simp at hx
      · split at hy
        · simp at hy
        · unfold bl3 at hx hy
          obtain ⟨a, ha, rfl⟩ := List.mem_map.1 hx
          obtain ⟨b, hb, rfl⟩ := List.mem_map.1 hy
          have ha := List.mem_range.1 (List.mem_filter.1 ha).1
          have h2 := blk_in hc ha
          have hun := Pc.un_range hc
          have h1 := Nat.mul_le_mul_right (Pc.pgs c * 512) (show s + 1 ≤ u from hsu)
          rw [Nat.add_mul, Nat.one_mul] at h1
          unfold Pc.addr
          omega
  · have hc := List.mem_range.1 hc
    have hd := List.mem_range.1 hd
    have hm : ∀ (c : Nat) (x : Int), c < 24 → x ∈ bl2 H c (Pc.slots c) → ∃ s k, s < Pc.slots c ∧ k < Pc.nb c ∧ x = ((Pc.addr c s k : Nat) : Int) := fun c x hc hx => by
      unfold bl2 at hx
      obtain ⟨s, hs, hx⟩ := List.mem_flatMap.1 hx
      split at hx
      · simp at hx
      · unfold bl3 at hx
        obtain ⟨k, hk, rfl⟩ := List.mem_map.1 hx
        exact ⟨s, k, List.mem_range.1 hs, List.mem_range.1 (List.mem_filter.1 hk).1, rfl⟩
    obtain ⟨s, k, h1, h2, rfl⟩ := hm c x hc hx
    obtain ⟨s', k', h3, h4, rfl⟩ := hm d y hd hy
    have := addr_lt hc h1 h2
    have := addr_lt hd h3 h4
    have := Pc.un_range hc
    omega
theorem blocks_nodup (H : HS) : (blocksL H).Nodup := (blocks_up H).imp (fun h => by omega)
end Hin
end Go.Proofs.YtnheibcjcgacpaaGreatDoor

/-! Two heaps of one arena: a call of one, and the other; whose the pages are that are not free: plain. -/
namespace Go.Proofs.YtnheibcjcgacpaaGreatDoor
open Go.RowKit Go.ChangeMaps
namespace Hin
open Pgi He Pg
/-- Pages that are not free are this heap's, or were so, and not this heap's. -/
def Acc (t t' : T3) : Prop := ∀ y : Nat, fr t'.M y = false → (∃ v, eget t'.H.E v = some (y : Int)) ∨ (fr t.M y = false ∧ ∀ v, eget t.H.E v ≠ some (y : Int))
theorem Acc.eq {t t' : T3} (hE : t'.H.E = t.H.E) (hM : t'.M = t.M) : Acc t t' := fun y hy => by
  rw [hM] at hy
  rw [hE]
  by_cases e : ∃ v, eget t.H.E v = some (y : Int)
  · exact .inl e
  · exact .inr ⟨hy, fun v hv => e ⟨v, hv⟩⟩
theorem Acc.trans {a b c : T3} (h : Acc a b) (k : Acc b c) : Acc a c := fun y hy => by
  rcases k y hy with e | ⟨e1, e2⟩
  · exact .inl e
  · rcases h y e1 with ⟨v, hv⟩ | e
    · exact absurd hv (e2 v)
    · exact .inr e
theorem Took.acc {t t' : T3} {b n : Nat} {xs : Nat → Nat} (k : Took t t' b n xs) (hn : ∀ i, i < n → eget t.H.E ((b + i : Nat) : Int) = none) : Acc t t' := fun y hy => by
  by_cases e : ∃ i, i < n ∧ xs i = y
  · obtain ⟨i, hi, rfl⟩ := e
    exact .inl ⟨_, (k.x i hi).2.2.2⟩
  · have hf : fr t.M y = false := by
      cases q : fr t.M y with
      | false => rfl
      | true =>
        have := (k.f y).2 ⟨q, fun i hi w => e ⟨i, hi, w⟩⟩
        rw [hy] at this; cases this
    by_cases e2 : ∃ v, eget t.H.E v = some (y : Int)
    · obtain ⟨v, hv⟩ := e2
      refine .inl ⟨v, (k.o v (fun i hi w => ?_)).trans hv⟩
      rw [w, hn i hi] at hv; cases hv
    · exact .inr ⟨hf, fun v hv => e2 ⟨v, hv⟩⟩
theorem Lets.acc {t t' : T3} {b n : Nat} (k : Lets t t' b n) : Acc t t' := fun y hy => by
  have hf : fr t.M y = false := by
    cases q : fr t.M y with
    | false => rfl
    | true =>
      have := (k.f y).2 (.inl q)
      rw [hy] at this; cases this
  by_cases e2 : ∃ v, eget t.H.E v = some (y : Int)
  · obtain ⟨v, hv⟩ := e2
    refine .inl ⟨v, (k.o v (fun i hi w => ?_)).trans hv⟩
    have := (k.f y).2 (.inr ⟨i, hi, by rw [← w]; exact hv⟩)
    rw [hy] at this; cases this
  · exact .inr ⟨hf, fun v hv => e2 ⟨v, hv⟩⟩
theorem hold_none {t : T3} {c s : Nat} (h : HI t) (hc : c < 24) (hs : s < Pc.slots c) (hf : (t.H.F c).getD s false = true) : ∀ i, i < Pc.pgs c → eget (slotT t c s).H.E ((Pc.loc c s + i : Nat) : Int) = none := fun i hi => by
  show eget t.H.E _ = none
  cases e : eget t.H.E ((Pc.loc c s + i : Nat) : Int) with
  | none => rfl
  | some p =>
    have := (h.dm c s i hc hs hi).1 (by rw [e]; rfl)
    rw [hf] at this; cases this
theorem mal1_acc (t : T3) (c : Nat) (v : Int) (P : PG) : Acc t (mal1 t c v P) := by
  obtain ⟨m1, m2, m3, m4, -⟩ := mal1_S t c v P
  exact Acc.eq m4 m2
theorem malloc_acc {t : T3} {n : Int} (h : HI t) : Acc t (mallocT t n).1 := by
  have m := mal_cases (n := n) h
  generalize mallocT t n = r at m
  cases m with
  | bad => exact Acc.eq rfl rfl
  | full => exact Acc.eq rfl rfl
  | great c s xs h1 h2 h8 ho hs hf hl hS k => exact (Acc.eq (t := t) (t' := slotT t c s) rfl rfl).trans (k.acc (hold_none h h2 hs hf))
  | new c s xs h1 h8 ho hL hs hf hl hS k hx =>
    exact (((Acc.eq (t := t) (t' := slotT t c s) rfl rfl).trans (k.acc (hold_none h (by omega) hs hf))).trans (Acc.eq (t := holdT t c) (t' := new1 (holdT t c) c (Pc.loc c s) (xs 0)) rfl rfl)).trans (mal1_acc _ _ _ _)
  | old c s r P h1 h8 hs hL hP hk hf => exact mal1_acc _ _ _ _
theorem free_acc {t : T3} {a : Int} (h : HI t) : Acc t (freeT t a).1 := by
  have m := fre_cases (a := a) h
  generalize freeT t a = r at m
  cases m with
  | none => exact Acc.eq rfl rfl
  | great c s k h1 h2 h8 hs hk hf =>
    have q := (rel_hi h h2 hs hf ⟨fun e => by omega, fun _ => rfl⟩).2
    exact q.acc.trans (Acc.eq (t' := rel3 t c s) rfl rfl)
  | small c s k P h1 h8 hs hf hP hK hk hh =>
    have q := fre_hi h h8 hs hP hk hh
    have e0 : (fr0 t c ((Pc.loc c s : Nat) : Int) P).M = t.M ∧ (fr0 t c ((Pc.loc c s : Nat) : Int) P).H.E = t.H.E := by
      unfold fr0
      cases full P <;> exact ⟨rfl, rfl⟩
    have hA1 : Acc t (fr1 (fr0 t c ((Pc.loc c s : Nat) : Int) P) ((Pc.loc c s : Nat) : Int) P k) := Acc.eq e0.2 e0.1
    show Acc t (free3 t c s (Pc.loc c s) P k)
    unfold free3
    split
    · have q2 := del_hi (P := P) q h8 hs
      have hF : (fr2 (fr1 (fr0 t c ((Pc.loc c s : Nat) : Int) P) ((Pc.loc c s : Nat) : Int) P k) c ((Pc.loc c s : Nat) : Int)).H.F = t.H.F := by
        unfold fr2 fr1 fr0
        cases full P <;> rfl
      have q3 := (rel_hi q2 (by omega) hs (by rw [hF]; exact hf) ⟨fun _ => ⟨rfl, by show eget (edel _ _) _ = none; rw [eget_edel, if_pos rfl]⟩, fun e => by omega⟩).2
      exact (hA1.trans (Acc.eq (t' := fr2 (fr1 (fr0 t c ((Pc.loc c s : Nat) : Int) P) ((Pc.loc c s : Nat) : Int) P k) c ((Pc.loc c s : Nat) : Int)) rfl rfl)).trans (q3.acc.trans (Acc.eq (t' := rel3 (fr2 (fr1 (fr0 t c ((Pc.loc c s : Nat) : Int) P) ((Pc.loc c s : Nat) : Int) P k) c ((Pc.loc c s : Nat) : Int)) c s) rfl rfl))
    · exact hA1
theorem drop_acc {t : T3} (h : HI t) : Acc t (dropT t) := fun y hy => by
  have k := drop_ok h
  refine .inr ⟨?_, fun v hv => ?_⟩
  · cases q : fr t.M y with
    | false => rfl
    | true => have := (k.f y).2 (.inl q); rw [hy] at this; cases this
  · have := (k.f y).2 (.inr ⟨v, hv⟩); rw [hy] at this; cases this
theorem mov1_acc {t : T3} {v : Int} {x o : Nat} (h : TI t) (hv : eget t.H.E v = some (o : Int)) (k : Mov1 t v x o) : Acc t (mov1 t v) := fun y hy => by
  have hsv : ∀ u, eget (mov1 t v).H.E u = if u = v then some (x : Int) else eget t.H.E u := fun u => by rw [k.e]; exact eget_eset _ _ _ _
  rw [k.f] at hy
  split at hy
  · cases hy
  · rename_i hyo
    by_cases e : y = x
    · exact .inl ⟨v, by rw [hsv, if_pos rfl, e]⟩
    · rw [if_neg e] at hy
      by_cases e2 : ∃ u, eget t.H.E u = some (y : Int)
      · obtain ⟨u, hu⟩ := e2
        have hne : u ≠ v := fun q => by
          rw [q, hv] at hu
          injection hu with hu; omega
        exact .inl ⟨u, by rw [hsv, if_neg hne]; exact hu⟩
      · exact .inr ⟨hy, fun u hu => e2 ⟨u, hu⟩⟩
theorem movL_acc : ∀ (L : List Int) (t : T3), HI t → (∀ v ∈ L, ∃ o : Nat, eget t.H.E v = some (o : Int) ∧ ¬ inW t.M t.H.W o) → L.Nodup → L.length ≤ Co.nf t.M t.H.W → Acc t (movL t L)
  | [], t, h, _, _, _ => Acc.eq rfl rfl
  | v :: L, t, h, hL, hn, hl => by
    obtain ⟨o, hv, hw⟩ := hL v List.mem_cons_self
    rw [List.length_cons] at hl
    rw [List.nodup_cons] at hn
    obtain ⟨x, k⟩ := mov1_ok h.ti (by omega) hv hw
    have h1 := mov1_hi h hv k
    have hsv : ∀ u, eget (mov1 t v).H.E u = if u = v then some (x : Int) else eget t.H.E u := fun u => by rw [k.e]; exact eget_eset _ _ _ _
    have hW : (mov1 t v).H.W = t.H.W := by rw [k.e]
    have hC := (mov1_fra h.ti hv k).CP.1
    have hnf := k.nf
    refine (mov1_acc h.ti hv k).trans (movL_acc L (mov1 t v) h1 (fun u hu => ?_) hn.2 (by rw [hW]; omega))
    obtain ⟨o', q1, q2⟩ := hL u (List.mem_cons_of_mem _ hu)
    refine ⟨o', ?_, by unfold inW at q2 ⊢; rw [hC, hW]; exact q2⟩
    rw [hsv, if_neg (show u ≠ v from fun e => hn.1 (e ▸ hu))]; exact q1
theorem move_acc {t : T3} (h : HI t) (W' : List Int) : Acc t (moveT t W').1 := by
  unfold moveT
  split
  · exact Acc.eq rfl rfl
  · rename_i e
    exact (Acc.eq (t := t) (t' := setW t W') rfl rfl).trans (movL_acc _ _ (h.setW W') (fun v hv => (mem_outL h).1 hv) ((nodup_sortedKeys h.ti.inv).filter _) (by show _ ≤ Co.nf t.M W'; omega))
/-- A move keeps what is had, and its bytes. -/
theorem move_kept {t : T3} (h : HI t) (W' : List Int) : Kept t (moveT t W').1 := by
  unfold moveT
  split
  · exact Kept.refl t
  · rename_i hle
    have m := move_ok h W' (by omega)
    show Kept t (movL (setW t W') (outL t W'))
    generalize movL (setW t W') (outL t W') = t2 at *
    refine ⟨fun c s k h1 h2 h3 => ?_, fun c s k i h1 h2 h3 h4 h5 => byt_same h1 h3 h4 (fun j hj => ?_)⟩
    · have hd := m.d ((Pc.loc c s : Nat) : Int)
      have hd : (eget t2.H.D ((Pc.loc c s : Nat) : Int)).map (fun P => ({ P with base := 0 } : PG)) = (eget t.H.D ((Pc.loc c s : Nat) : Int)).map (fun P => ({ P with base := 0 } : PG)) := hd
      have hF : t2.H.F = t.H.F := m.F.1
      have hb : hasB t2.H ((Pc.loc c s : Nat) : Int) k = hasB t.H ((Pc.loc c s : Nat) : Int) k := by
        unfold hasB
        cases e1 : eget t2.H.D ((Pc.loc c s : Nat) : Int) with
        | none =>
          rw [e1] at hd
          cases e2 : eget t.H.D ((Pc.loc c s : Nat) : Int) with
          | none => rfl
          | some Q => rw [e2] at hd; cases hd
        | some P =>
          rw [e1] at hd
          cases e2 : eget t.H.D ((Pc.loc c s : Nat) : Int) with
          | none => rw [e2] at hd; cases hd
          | some Q =>
            rw [e2] at hd
            injection hd with hd
            have hS : P.S = Q.S := by have h9 := congrArg PG.S hd; exact h9
            dsimp only
            unfold has
            rw [hS]
      unfold hadB
      rw [hF, hb]
    · obtain ⟨y, y1, y2, y3⟩ := h.page h1 h2 (had_iff.1 h5).1 hj
      obtain ⟨x, x1, x2, x3, x4⟩ := m.e _ y y1
      unfold pgc
      rw [Tab.fnd_some x1, Tab.fnd_some y1, Int.toNat_natCast, Int.toNat_natCast]
      exact x2
/-! The other heap. -/
def Apart (H G : HS) : Prop := ∀ u v (y : Nat), eget H.E u = some (y : Int) → eget G.E v ≠ some (y : Int)
theorem Apart.symm {H G : HS} (h : Apart H G) : Apart G H := fun u v y h1 h2 => h v u y h2 h1
structure Oth (t t' : T3) (G : HS) : Prop where
  hi : HI ⟨G, t'.S, t'.M⟩
  ap : Apart t'.H G
  kept : Kept ⟨G, t.S, t.M⟩ ⟨G, t'.S, t'.M⟩
theorem oth_ok {t t' : T3} {G : HS} (hg : HI ⟨G, t.S, t.M⟩) (f : Fra t t') (h' : HI t') (ap : Apart t.H G) : Oth t t' G := by
  have hp : ∀ v (y : Nat), eget G.E v = some (y : Int) → y < t.M.P ∧ fr t'.M y = false ∧ cut t'.S.B (y * 512) = cut t.S.B (y * 512) ∧ ∀ u, eget t'.H.E u ≠ some (y : Int) := fun v y hv => by
    obtain ⟨z, z1, z2, z3⟩ := hg.ti.tk v _ hv
    obtain rfl : y = z := by omega
    obtain ⟨f1, f2, f3⟩ := f.oth y z3 (fun u hu => ap u v y hu hv)
    exact ⟨z2, f1, f2, f3⟩
  refine ⟨⟨⟨hg.ti.inv, h'.ti.mi, fun v p hv => ?_, h'.ti.bl, h'.ti.zf⟩, hg.fl, hg.dm, hg.dk, fun v P hv => ?_, hg.ds, hg.ll⟩, fun u v y hu hv => (hp v y hv).2.2.2 u hu, fun c s k _ _ _ => rfl, fun c s k i h1 h2 h3 h4 h5 => byt_same h1 h3 h4 (fun j hj => ?_)⟩
  · obtain ⟨z, z1, z2, z3⟩ := hg.ti.tk v p hv
    have hv : eget G.E v = some p := hv
    rw [z1] at hv
    obtain ⟨q1, q2, -, -⟩ := hp v z hv
    exact ⟨z, z1, by show z < t'.M.P; rw [f.CP.2]; exact q1, q2⟩
  · obtain ⟨c, s, x, a1, a2, a3, a4, a5, a6, a7, a8, a9⟩ := hg.dd v P hv
    refine ⟨c, s, x, a1, a2, a3, a4, a5, a6, a7, ?_, a9⟩
    show PI (cut t'.S.B (x * 512)) P
    rw [(hp v x a6).2.2.1]; exact a8
  · obtain ⟨y, y1, y2, y3⟩ := hg.page h1 h2 (had_iff.1 h5).1 hj
    exact pgc_same y1 rfl (hp _ y y1).2.2.1
/-! A block is written. -/
theorem getD_ext {A B : Bs} {l : Nat} (hl : A.length = B.length) (h : ∀ i, i < 8 → A.getD (l + i) 0 = B.getD (l + i) 0) : (A.drop l).take 8 = (B.drop l).take 8 := by
  refine List.ext_getElem? fun i => ?_
  rw [drop_get8, drop_get8]
  split
  · rename_i hi
    have := h i hi
    rw [List.getD_eq_getElem?_getD, List.getD_eq_getElem?_getD] at this
    by_cases e : l + i < A.length
    · rw [List.getElem?_eq_getElem e, List.getElem?_eq_getElem (by omega)] at this ⊢
      exact congrArg some this
    · rw [List.getElem?_eq_none (by omega), List.getElem?_eq_none (by omega)]
  · rfl
theorem links_same {C C' : Bs} {c k : Nat} (hc : c < 8) (hC : C'.length = C.length) (hk : k < Pc.per c) (ho : ∀ q, q < k * Pc.un c ∨ k * Pc.un c + Pc.un c ≤ q → C'.getD q 0 = C.getD q 0) : ∀ L, k ∉ L → Links C 0 (Pc.un c) (Pc.per c) L → Links C' 0 (Pc.un c) (Pc.per c) L
  | [], _, _ => trivial
  | j :: L, hn, ⟨h1, h2, h3⟩ => by
    have hne : k ≠ j := fun e => hn (by rw [e]; exact List.mem_cons_self)
    have hu := un_ge hc
    refine ⟨h1, ?_, links_same hc hC hk ho L (fun e => hn (List.mem_cons_of_mem _ e)) h3⟩
    rw [Nat.zero_add] at h2 ⊢
    obtain ⟨w1, w2, w3⟩ := h2
    refine ⟨?_, w2, by rw [hC]; exact w3⟩
    rw [← w1]
    refine getD_ext hC (fun i hi => ho _ ?_)
    rcases blk_apart (u := Pc.un c) hne with e | e
    · right; omega
    · left; omega
theorem pi_write {C C' : Bs} {P : PG} (h : PI C P) {k : Nat} (hk : k < Pc.per P.kind) (hs : P.S.getD k false = false) (hC : C'.length = C.length) (ho : ∀ q, q < k * Pc.un P.kind ∨ k * Pc.un P.kind + Pc.un P.kind ≤ q → C'.getD q 0 = C.getD q 0) : PI C' P := by
  have hkn : k ∉ P.R ++ P.W := fun e => by rw [(h.fs k e).1] at hs; cases hs
  refine { h with len := hC.trans h.len, rl := links_same h.k8 hC hk ho _ (fun e => hkn (List.mem_append_left _ e)) h.rl, wl := links_same h.k8 hC hk ho _ (fun e => hkn (List.mem_append_right _ e)) h.wl, z := fun j h1 h2 i hi hm => ?_ }
  have hne : k ≠ j := fun e => by rw [e, h2] at hs; cases hs
  rw [ho _ ?_]
  · exact h.z j h1 h2 i hi hm
  · rcases blk_apart (u := Pc.un P.kind) hne with e | e
    · right; omega
    · left; omega
/-- Where no byte lies but those of one block, all else is as it was. -/
structure Wrote (t t' : T3) (c s k : Nat) (d : Nat → UInt8) : Prop where
  hi : HI t'
  fra : Fra t t'
  acc : Acc t t'
  had : t'.H = t.H
  M : t'.M = t.M
  val : ∀ i, i < Pc.un c → byt t' (Pc.addr c s k + i) = d i
  byt : ∀ c' s' k' i, c' < 24 → s' < Pc.slots c' → k' < Pc.nb c' → i < Pc.un c' → hadB t.H c' s' k' = true → ¬ (c' = c ∧ s' = s ∧ k' = k) → Hin.byt t' (Pc.addr c' s' k' + i) = Hin.byt t (Pc.addr c' s' k' + i)
theorem lad_inj {E G : Tab.Prs} (h : Tab.Inv E G) {a b : Nat} (ha : 0 ≤ Tab.fnd E ((a / 512 : Nat) : Int)) (hb : 0 ≤ Tab.fnd E ((b / 512 : Nat) : Int)) (e : lad E a = lad E b) : a = b := by
  have hx : ∀ v : Int, 0 ≤ Tab.fnd E v → eget E v = some (Tab.fnd E v) := fun v hv => by
    cases q : eget E v with
    | none => rw [Tab.fnd_none q] at hv; omega
    | some p => rw [Tab.fnd_some q]
  have h1 := hx _ ha
  have h2 := hx _ hb
  unfold lad at e
  generalize Tab.fnd E ((a / 512 : Nat) : Int) = x at *
  generalize Tab.fnd E ((b / 512 : Nat) : Int) = y at *
  have hxy : x = y := by omega
  rw [← hxy] at h2
  have g1 := (h.ab _ _ h1).1
  have g2 := (h.ab _ _ h2).1
  rw [g1] at g2
  injection g2 with g2
  omega
theorem HIx.cov {u z : Int} {t : T3} (h : HIx u z t) {c s k i : Nat} (hc : c < 24) (hs : s < Pc.slots c) (hk : k < Pc.nb c) (hf : (t.H.F c).getD s false = false) (hi : i < Pc.un c) : ∃ x : Nat, eget t.H.E (((Pc.addr c s k + i) / 512 : Nat) : Int) = some (x : Int) ∧ x < t.M.P ∧ fr t.M x = false := by
  obtain ⟨h1, h2, h3⟩ := blk_pg (s := s) hc hk hi
  rw [h1]
  exact h.page hc hs hf h3
theorem write_ok {t : T3} {c s k : Nat} {S' : Ar.AS} {d : Nat → UInt8} (h : HI t) (hc : c < 24) (hs : s < Pc.slots c) (hk : k < Pc.nb c) (hh : hadB t.H c s k = true) (hl : S'.B.length = t.S.B.length)
    (hv : ∀ i, i < Pc.un c → S'.B.getD (lad t.H.E (Pc.addr c s k + i)) 0 = d i) (ho : ∀ q, (∀ i, i < Pc.un c → q ≠ lad t.H.E (Pc.addr c s k + i)) → S'.B.getD q 0 = t.S.B.getD q 0) : Wrote t ⟨t.H, S', t.M⟩ c s k d := by
  have hf := (had_iff.1 hh).1
  have hlad : ∀ i, i < Pc.un c → ∃ x : Nat, eget t.H.E ((Pc.loc c s + (k * Pc.un c + i) / 512 : Nat) : Int) = some (x : Int) ∧ lad t.H.E (Pc.addr c s k + i) = x * 512 + (k * Pc.un c + i) % 512 := fun i hi => by
    obtain ⟨h1, h2, h3⟩ := blk_pg (s := s) hc hk hi
    obtain ⟨x, x1, -, -⟩ := h.page hc hs hf h3
    refine ⟨x, x1, ?_⟩
    unfold lad
    rw [h1, h2, Tab.fnd_some x1, Int.toNat_natCast]
  -- a page that none of the block's bytes lies in
  have hcut : ∀ y : Nat, (∀ j, j < Pc.pgs c → eget t.H.E ((Pc.loc c s + j : Nat) : Int) ≠ some (y : Int)) → cut S'.B (y * 512) = cut t.S.B (y * 512) := fun y hy => by
    refine List.ext_getElem? fun i => ?_
    rw [cut_get, cut_get]
    split
    · rename_i hi
      have := ho (y * 512 + i) (fun j hj e => by
        obtain ⟨x, x1, x2⟩ := hlad j hj
        rw [x2] at e
        have : x = y := by have := Nat.mod_lt (k * Pc.un c + j) (show 512 > 0 by omega); omega
        exact hy _ (blk_pg (s := s) hc hk hj).2.2 (by rw [x1, this]))
      rw [List.getD_eq_getElem?_getD, List.getD_eq_getElem?_getD] at this
      by_cases e : y * 512 + i < S'.B.length
      · rw [List.getElem?_eq_getElem e, List.getElem?_eq_getElem (by omega)] at this ⊢
        exact congrArg some this
      · rw [List.getElem?_eq_none (by omega), List.getElem?_eq_none (by omega)]
    · rfl
  have hne : ∀ y : Nat, fr t.M y = true → ∀ v, eget t.H.E v ≠ some (y : Int) := fun y hy v hv => by
    obtain ⟨z, z1, z2, z3⟩ := h.ti.tk v _ hv
    obtain rfl : y = z := by omega
    rw [hy] at z3; cases z3
  refine ⟨⟨⟨h.ti.inv, h.ti.mi, h.ti.tk, hl.trans h.ti.bl, fun y hy hfy => ?_⟩, h.fl, h.dm, h.dk, fun v P hP => ?_, h.ds, h.ll⟩, ⟨⟨rfl, rfl⟩, hl, fun y h1 h2 => ⟨h1, hcut y (fun j hj => h2 _), h2⟩⟩, Acc.eq rfl rfl, rfl, rfl, hv, fun c' s' k' i h1 h2 h3 h4 h5 h6 => ho _ (fun j hj e => h6 ?_)⟩
  · show cut S'.B (y * 512) = _
    rw [hcut y (fun j hj => hne y hfy _)]
    exact h.ti.zf y hy hfy
  · obtain ⟨c0, s0, x, a1, a2, a3, a4, a5, a6, a7, a8, a9⟩ := h.dd v P hP
    refine ⟨c0, s0, x, a1, a2, a3, a4, a5, a6, a7, ?_, a9⟩
    show PI (cut S'.B (x * 512)) P
    by_cases e : c0 = c ∧ s0 = s
    · obtain ⟨rfl, rfl⟩ := e
      have hfit := page_fit (x := x) (by obtain ⟨z, z1, z2, z3⟩ := h.ti.tk v _ a6; omega) h.ti.bl
      rw [a4] at hP a6
      have hk8 : k < Pc.per c0 := by rw [nb8 a1] at hk; exact hk
      refine pi_write a8 (k := k) (by rw [a5]; exact hk8) ?_ (by rw [cut_len (by rw [hl]; exact hfit), cut_len hfit]) (fun q hq => ?_)
      · have := (had_iff.1 hh).2.resolve_left (by omega)
        unfold hasB at this
        rw [hP] at this
        dsimp only at this
        rw [has_nat] at this
        simp at this
        have e2 := this.2
        rw [List.getD_eq_getElem?_getD]
        exact e2
      · rw [a5] at hq
        by_cases hq5 : q < 512
        · rw [getD_cut hq5, getD_cut hq5]
          refine ho _ (fun i hi e => ?_)
          obtain ⟨z, z1, z2⟩ := hlad i hi
          have hb := blk_fit a1 hk8
          rw [Nat.div_eq_of_lt (show k * Pc.un c0 + i < 512 by omega), Nat.add_zero, a6] at z1
          injection z1 with z1
          rw [z2, Nat.mod_eq_of_lt (show k * Pc.un c0 + i < 512 by omega)] at e
          omega
        · rw [List.getD_eq_getElem?_getD, List.getD_eq_getElem?_getD, cut_get, cut_get, if_neg hq5, if_neg hq5]
    · rw [hcut x (fun j hj q => ?_)]
      · exact a8
      · have := h.ti.inj a6 q
        rw [a4] at this
        exact loc_ne2 (j' := 0) hc hs (by omega) a2 e hj (by rw [pgs1 a1]; omega) (by rw [Nat.add_zero]; exact this)
  · have hf' := (had_iff.1 h5).1
    obtain ⟨x, x1, -, -⟩ := h.cov h1 h2 h3 hf' h4
    obtain ⟨y, y1, -, -⟩ := h.cov hc hs hk hf hj
    have := lad_inj h.ti.inv (by rw [Tab.fnd_some x1]; omega) (by rw [Tab.fnd_some y1]; omega) e
    exact blk_apart2 h1 h2 h3 hc hs hk h4 hj this
end Hin
end Go.Proofs.YtnheibcjcgacpaaGreatDoor
