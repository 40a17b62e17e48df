/- What always holds of a heap; its calls keep it: plain. -/
import Derived.Test.YtnheibcjcgacpaaGreatDoorHin
set_option linter.unusedVariables false
set_option linter.unusedSimpArgs false
namespace Go.Proofs.YtnheibcjcgacpaaGreatDoor
open Go.RowKit Go.ChangeMaps
namespace Hin
open Pgi He Pg
theorem loc_inj {c s i c' s' i' : Nat} (hc : c < 24) (hs : s < Pc.slots c) (hi : i < Pc.pgs c) (hc' : c' < 24) (hs' : s' < Pc.slots c') (hi' : i' < Pc.pgs c') (e : Pc.loc c s + i = Pc.loc c' s' + i') : c = c' ∧ s = s' ∧ i = i' := by
  have h1 := Pc.loc_range hc hs
  have h2 := Pc.loc_range hc' hs'
  obtain rfl : c = c' := by omega
  unfold Pc.loc at e
  by_cases hss : s = s'
  · subst hss; exact ⟨rfl, rfl, by omega⟩
  · have := blk_apart (u := Pc.pgs c) hss
    omega
theorem loc_inj0 {c s c' s' : Nat} (hc : c < 24) (hs : s < Pc.slots c) (hc' : c' < 24) (hs' : s' < Pc.slots c') (e : Pc.loc c s = Pc.loc c' s') : c = c' ∧ s = s' := by
  have h1 := Pc.pgs_range hc
  have h2 := Pc.pgs_range hc'
  have := loc_inj (i := 0) (i' := 0) hc hs (by omega) hc' hs' (by omega) (by omega)
  exact ⟨this.1, this.2.1⟩
theorem pgs1 {c : Nat} (h : c < 8) : Pc.pgs c = 1 := by unfold Pc.pgs; rw [if_pos h]
/-- What always holds of a heap (but, amid a call: the page at u may have no block; that at z is not yet, or no longer, known). -/
structure HIx (u z : Int) (t : T3) : Prop where
  ti : TI t
  fl : ∀ c, c < 24 → (t.H.F c).length = Pc.slots c
  dm : ∀ c s i, c < 24 → s < Pc.slots c → i < Pc.pgs c → ((eget t.H.E ((Pc.loc c s + i : Nat) : Int)).isSome = true ↔ (t.H.F c).getD s false = false)
  dk : ∀ v, (eget t.H.E v).isSome = true → ∃ c s i, c < 24 ∧ s < Pc.slots c ∧ i < Pc.pgs c ∧ v = ((Pc.loc c s + i : Nat) : Int)
  dd : ∀ v P, eget t.H.D v = some P → ∃ c s x : Nat, c < 8 ∧ s < Pc.slots c ∧ (t.H.F c).getD s false = false ∧ v = ((Pc.loc c s : Nat) : Int) ∧ P.kind = c ∧ eget t.H.E v = some (x : Int) ∧ P.base = x * 512 ∧ PI (cut t.S.B (x * 512)) P ∧ (v = u ∨ used P ≠ 0)
  ds : ∀ c s, c < 8 → s < Pc.slots c → (t.H.F c).getD s false = false → ((Pc.loc c s : Nat) : Int) ≠ z → (eget t.H.D ((Pc.loc c s : Nat) : Int)).isSome = true
  ll : ∀ c, c < 8 → (t.H.L c).Nodup ∧ ∀ v, v ∈ t.H.L c ↔ ∃ P, eget t.H.D v = some P ∧ P.kind = c ∧ full P = false
abbrev HI (t : T3) : Prop := HIx (-1) (-1) t
theorem upl_getD {F : Nat → List Bool} {c s c' s' : Nat} {b : Bool} (hs : s < (F c).length) : (upl F c ((F c).set s b) c').getD s' false = if c' = c ∧ s' = s then b else (F c').getD s' false := by
  by_cases e : c' = c
  · subst e
    rw [upl_same, Sh.getD_set _ _ _ _ hs]
    by_cases e2 : s' = s
    · rw [if_pos e2, if_pos ⟨rfl, e2⟩]
    · rw [if_neg e2, if_neg (fun q => e2 q.2)]
  · rw [upl_other _ _ e, if_neg (fun q => e q.1)]
theorem low_at {S : List Bool} (h : 0 ≤ Sh.low S) : ∃ s : Nat, Sh.low S = (s : Int) ∧ s < S.length ∧ S.getD s false = true := by
  rcases Co.low_frees (S := S) with ⟨_, e⟩ | ⟨s, r, e1, e2⟩
  · omega
  · exact ⟨s, e2, Sh.mem_frees.1 (by rw [e1]; exact List.mem_cons_self)⟩
theorem hold_at {t : T3} {c : Nat} (h : HI t) (hc : c < 24) (hok : holdOk t c = true) : ∃ (s : Nat) (xs : Nat → Nat), s < Pc.slots c ∧ (t.H.F c).getD s false = true ∧ Sh.low (t.H.F c) = (s : Int) ∧ holdS t c = (s : Int) ∧ Took (slotT t c s) (holdT t c) (Pc.loc c s) (Pc.pgs c) xs := by
  have ho := hok
  unfold holdOk at ho
  simp only [decide_eq_true_eq] at ho
  obtain ⟨s, e1, e2, e3⟩ := low_at ho.1
  rw [h.fl c hc] at e2
  have hr := Pc.loc_range hc e2
  have hT : TI (slotT t c s) := ⟨h.ti.inv, h.ti.mi, h.ti.tk, h.ti.bl, h.ti.zf⟩
  obtain ⟨xs, k⟩ := takeN_ok hT (b := Pc.loc c s) (by omega) (Pc.pgs c) ho.2 (fun i hi => by
    show eget t.H.E _ = none
    cases e : eget t.H.E ((Pc.loc c s + i : Nat) : Int) with
    | none => rfl
    | some p =>
      have := (h.dm c s i hc e2 hi).1 (by rw [e]; rfl)
      rw [e3] at this; cases this) (by omega)
  refine ⟨s, xs, e2, e3, e1, by unfold holdS; rw [hok, e1]; rfl, ?_⟩
  unfold holdT
  rw [hok, e1]
  simp only [if_true, Int.toNat_natCast]
  exact k
/-- A slot is taken with its pages. -/
theorem hold_hi {t t1 : T3} {c s : Nat} {xs : Nat → Nat} (h : HI t) (hc : c < 24) (hs : s < Pc.slots c) (hf : (t.H.F c).getD s false = true) (k : Took (slotT t c s) t1 (Pc.loc c s) (Pc.pgs c) xs) : HIx (-1) ((Pc.loc c s : Nat) : Int) t1 := by
  obtain ⟨d1, d2, d3, d4⟩ := k.D
  have hlen : s < (t.H.F c).length := by rw [h.fl c hc]; exact hs
  have hF : ∀ c' s', (t1.H.F c').getD s' false = if c' = c ∧ s' = s then false else (t.H.F c').getD s' false := fun c' s' => by
    rw [d2]; exact upl_getD hlen
  have hold : ∀ v : Int, (eget t.H.E v).isSome = true → eget t1.H.E v = eget t.H.E v := fun v hv => k.o v (fun i hi e => by
    have := (h.dm c s i hc hs hi).1 (by rw [← e]; exact hv)
    rw [hf] at this; cases this)
  have hkey : ∀ v : Int, (eget t1.H.E v).isSome = true → (∃ i, i < Pc.pgs c ∧ v = ((Pc.loc c s + i : Nat) : Int)) ∨ eget t1.H.E v = eget t.H.E v := fun v hv => by
    by_cases q : ∃ i, i < Pc.pgs c ∧ v = ((Pc.loc c s + i : Nat) : Int)
    · exact .inl q
    · exact .inr (k.o v (fun i hi e => q ⟨i, hi, e⟩))
  refine ⟨k.ti, fun c' hc' => ?_, fun c' s' i hc' hs' hi => ?_, fun v hv => ?_, fun v P hv => ?_, fun c' s' hc' hs' hf' hne => ?_, fun c' hc' => ?_⟩
  · rw [d2]
    show (upl t.H.F c _ c').length = _
    by_cases e : c' = c
    · subst e; rw [upl_same, List.length_set]; exact h.fl c' hc'
    · rw [upl_other _ _ e]; exact h.fl c' hc'
  · rw [hF]
    by_cases e : c' = c ∧ s' = s
    · obtain ⟨rfl, rfl⟩ := e
      rw [if_pos ⟨rfl, rfl⟩, (k.x i hi).2.2.2]
      simp
    · rw [if_neg e]
      have : eget t1.H.E ((Pc.loc c' s' + i : Nat) : Int) = eget t.H.E ((Pc.loc c' s' + i : Nat) : Int) := k.o _ (fun j hj q => by
        have := loc_inj hc' hs' hi hc hs hj (by omega)
        exact e ⟨this.1, this.2.1⟩)
      rw [this]
      exact h.dm c' s' i hc' hs' hi
  · rcases hkey v hv with ⟨i, hi, e⟩ | e
    · exact ⟨c, s, i, hc, hs, hi, e⟩
    · rw [e] at hv; exact h.dk v hv
  · rw [d1] at hv
    obtain ⟨c', s', x, a1, a2, a3, a4, a5, a6, a7, a8, a9⟩ := h.dd v P hv
    refine ⟨c', s', x, a1, a2, ?_, a4, a5, ?_, a7, ?_, a9⟩
    · rw [hF]; split
      · rfl
      · exact a3
    · rw [hold v (by rw [a6]; rfl)]; exact a6
    · rw [k.S]; exact a8
  · rw [d1]
    rw [hF] at hf'
    rw [if_neg (fun q => hne (by rw [q.1, q.2]))] at hf'
    exact h.ds c' s' hc' hs' hf' (by omega)
  · rw [d3]
    have := h.ll c' hc'
    rw [show t1.H.D = t.H.D from d1]
    exact this
theorem hold_great {t : T3} {c : Nat} (h : HI t) (hc : c < 24) (h8 : 8 ≤ c) (hok : holdOk t c = true) : HI (holdT t c) := by
  obtain ⟨s, xs, e1, e2, e3, e4, k⟩ := hold_at h hc hok
  have q := hold_hi h hc e1 e2 k
  refine { q with ds := fun c' s' hc' hs' hf' _ => q.ds c' s' hc' hs' hf' (fun e => ?_) }
  have := loc_inj0 (by omega) hs' hc e1 (by omega)
  omega
/-- A new page is known. -/
theorem new_hi {t t1 : T3} {c s : Nat} {xs : Nat → Nat} (h : HI t) (hc : c < 8) (hs : s < Pc.slots c) (hf : (t.H.F c).getD s false = true) (k : Took (slotT t c s) t1 (Pc.loc c s) (Pc.pgs c) xs) (hL : t.H.L c = []) : HIx ((Pc.loc c s : Nat) : Int) (-1) (new1 t1 c (Pc.loc c s) (xs 0)) := by
  have q := hold_hi h (by omega) hs hf k
  have hp := pgs1 hc
  obtain ⟨x1, x2, x3, x4⟩ := k.x 0 (by omega)
  rw [Nat.add_zero] at x4
  have hF : (t1.H.F c).getD s false = false := (q.dm c s 0 (by omega) hs (by omega)).1 (by rw [Nat.add_zero, x4]; rfl)
  refine ⟨⟨k.ti.inv, k.ti.mi, k.ti.tk, k.ti.bl, k.ti.zf⟩, q.fl, q.dm, q.dk, fun v P hv => ?_, fun c' s' hc' hs' hf' _ => ?_, fun c' hc' => ?_⟩
  · have hv : eget (eset t1.H.D ((Pc.loc c s : Nat) : Int) (newP (xs 0 * 512) c)) v = some P := hv
    rw [eget_eset] at hv
    split at hv
    · rename_i e
      injection hv with hv
      subst hv
      refine ⟨c, s, xs 0, hc, hs, hF, e, rfl, by rw [e]; exact x4, rfl, ?_, .inl e⟩
      show PI (cut t1.S.B (xs 0 * 512)) _
      have hz := h.ti.zf (xs 0) x1 x2
      rw [k.S, show (slotT t c s).S = t.S from rfl, hz]
      exact PI.new hc
    · obtain ⟨c', s', x, a1, a2, a3, a4, a5, a6, a7, a8, a9⟩ := q.dd v P hv
      refine ⟨c', s', x, a1, a2, a3, a4, a5, a6, a7, a8, a9.imp (fun e => ?_) id⟩
      rw [a4] at e; omega
  · show (eget (eset t1.H.D _ _) _).isSome = true
    rw [eget_eset]
    split
    · rfl
    · rename_i e; exact q.ds c' s' hc' hs' hf' e
  · have ql := q.ll c' hc'
    have ee : ∀ v, eget (new1 t1 c (Pc.loc c s) (xs 0)).H.D v = if v = ((Pc.loc c s : Nat) : Int) then some (newP (xs 0 * 512) c) else eget t1.H.D v := fun v => eget_eset _ _ _ _
    by_cases e : c' = c
    · subst e
      show (upl t1.H.L c' _ c').Nodup ∧ ∀ v, v ∈ upl t1.H.L c' _ c' ↔ _
      rw [upl_same]
      refine ⟨(by simp), fun v => ?_⟩
      rw [ee, List.mem_singleton]
      constructor
      · intro e; rw [if_pos e]; exact ⟨_, rfl, rfl, full_new hc⟩
      · rintro ⟨P, b1, b2, b3⟩
        by_cases e : v = ((Pc.loc c' s : Nat) : Int)
        · exact e
        · rw [if_neg e] at b1
          have hm := (ql.2 v).2 ⟨P, b1, b2, b3⟩
          rw [k.D.2.2.1, show (slotT t c' s).H.L c' = t.H.L c' from rfl, hL] at hm
          simp at hm
    · show (upl t1.H.L c _ c').Nodup ∧ ∀ v, v ∈ upl t1.H.L c _ c' ↔ _
      rw [upl_other _ _ e]
      refine ⟨ql.1, fun v => (ql.2 v).trans ?_⟩
      rw [ee]
      by_cases e2 : v = ((Pc.loc c s : Nat) : Int)
      · rw [if_pos e2]
        constructor
        · rintro ⟨P, b1, b2, b3⟩
          obtain ⟨c1, s1, x, a1, a2, a3, a4, a5, a6, a7, a8, a9⟩ := q.dd v P b1
          have := loc_inj0 (c := c1) (c' := c) (by omega) a2 (by omega) hs (by omega)
          omega
        · rintro ⟨P, b1, b2, b3⟩
          injection b1 with b1
          rw [← b1] at b2
          exact absurd b2.symm e
      · rw [if_neg e2]
theorem TI.bytes {t : T3} (h : TI t) {B' : Bs} {T' : List Sp} {x : Nat} (hx : fr t.M x = false) (hl : B'.length = t.S.B.length) (hc : ∀ y, y ≠ x → cut B' (y * 512) = cut t.S.B (y * 512)) : TI { t with S := ⟨B', T'⟩ } :=
  ⟨h.inv, h.mi, h.tk, by rw [hl]; exact h.bl, fun y hy hf => by
    have hf : fr t.M y = true := hf
    show cut B' _ = _
    rw [hc y (fun e => by rw [e, hx] at hf; cases hf)]
    exact h.zf y hy hf⟩
/-- A page that is known. -/
theorem HIx.pg {u z : Int} {t : T3} (h : HIx u z t) {v : Int} {P : PG} (hv : eget t.H.D v = some P) : ∃ c s x : Nat, c < 8 ∧ s < Pc.slots c ∧ (t.H.F c).getD s false = false ∧ v = ((Pc.loc c s : Nat) : Int) ∧ P.kind = c ∧ eget t.H.E v = some (x : Int) ∧ P.base = x * 512 ∧ PI (cut t.S.B P.base) P ∧ P.base + 512 ≤ t.S.B.length ∧ x < t.M.P ∧ fr t.M x = false := by
  obtain ⟨c, s, x, a1, a2, a3, a4, a5, a6, a7, a8, a9⟩ := h.dd v P hv
  obtain ⟨y, y1, y2, y3⟩ := h.ti.tk v _ a6
  obtain rfl : x = y := by omega
  exact ⟨c, s, x, a1, a2, a3, a4, a5, a6, a7, by rw [a7]; exact a8, by rw [a7]; exact page_fit y2 h.ti.bl, y2, y3⟩
theorem mem_removeL {L : List Int} {k v : Int} : v ∈ Line.removeL L k ↔ v ∈ L ∧ v ≠ k := by
  unfold Line.removeL; simp
theorem nodup_removeL {L : List Int} {k : Int} (h : L.Nodup) : (Line.removeL L k).Nodup := h.filter _
/-- The first page of a line gives out a block. -/
theorem mal_hi {t : T3} {u v : Int} {c : Nat} {P : PG} (h : HIx u (-1) t) (hc : c < 8) (hv : v ∈ t.H.L c) (hP : eget t.H.D v = some P) (hu : u = -1 ∨ u = v) : HI (mal1 t c v P) := by
  obtain ⟨c0, s, x, a1, a2, a3, a4, a5, a6, a7, a8, a9, a10, a11⟩ := h.pg hP
  obtain ⟨Q, q1, q2, q3⟩ := ((h.ll c hc).2 v).1 hv
  rw [hP] at q1; injection q1 with q1
  subst q1
  obtain rfl : c0 = c := a5.symm.trans q2
  obtain ⟨r1, r2, r3, r4, r5, r6⟩ := a8.al q3
  have ok := a8.alOk a9 q3
  have hkd := alP_kind P
  have hlen := alS_len (S := t.S) ok a8.k8 a9
  have hcx : cut (alS P t.S).B (x * 512) = alC (cut t.S.B P.base) P := by rw [← a7]; exact cut_al a8 a9
  have hco : ∀ y, y ≠ x → cut (alS P t.S).B (y * 512) = cut t.S.B (y * 512) := fun y hy => al_out a8 a9 (by rw [a7]; have := page_apart hy; omega)
  have hus : used (alP P) ≠ 0 := used_set (k := alK P) (by rw [a8.sl]; exact r2) r3 r4
  have h0 : ∀ w, eget (eset t.H.D v (alP P)) w = if w = v then some (alP P) else eget t.H.D w := fun w => eget_eset _ _ _ _
  have hT : TI (mal0 t c0 v P) := by
    have := h.ti.bytes (T' := (alS P t.S).T) a11 hlen hco
    exact ⟨this.inv, this.mi, this.tk, this.bl, this.zf⟩
  have hdd : ∀ w Q, eget (eset t.H.D v (alP P)) w = some Q → ∃ c s x : Nat, c < 8 ∧ s < Pc.slots c ∧ (t.H.F c).getD s false = false ∧ w = ((Pc.loc c s : Nat) : Int) ∧ Q.kind = c ∧ eget t.H.E w = some (x : Int) ∧ Q.base = x * 512 ∧ PI (cut (alS P t.S).B (x * 512)) Q ∧ (w = -1 ∨ used Q ≠ 0) := fun w Q hw => by
    rw [h0] at hw
    split at hw
    · rename_i e
      injection hw with hw
      subst hw
      exact ⟨c0, s, x, a1, a2, a3, by rw [e]; exact a4, by rw [hkd.1]; exact a5, by rw [e]; exact a6, by rw [hkd.2]; exact a7, by rw [hcx]; exact r1, .inr hus⟩
    · rename_i e
      obtain ⟨c', s', x', b1, b2, b3, b4, b5, b6, b7, b8, b9⟩ := h.dd w Q hw
      refine ⟨c', s', x', b1, b2, b3, b4, b5, b6, b7, ?_, ?_⟩
      · rw [hco x' (fun q => e (h.ti.inj b6 (by rw [a6, q])))]; exact b8
      · rcases b9 with b9 | b9
        · rcases hu with hu | hu
          · exact .inl (b9.trans hu)
          · exact absurd (b9.trans hu) e
        · exact .inr b9
  have hds : ∀ c s, c < 8 → s < Pc.slots c → (t.H.F c).getD s false = false → ((Pc.loc c s : Nat) : Int) ≠ -1 → (eget (eset t.H.D v (alP P)) ((Pc.loc c s : Nat) : Int)).isSome = true := fun c s b1 b2 b3 b4 => by
    rw [h0]; split
    · rfl
    · exact h.ds c s b1 b2 b3 b4
  have hll : ∀ c', c' < 8 → c' ≠ c0 → (t.H.L c').Nodup ∧ ∀ w, w ∈ t.H.L c' ↔ ∃ Q, eget (eset t.H.D v (alP P)) w = some Q ∧ Q.kind = c' ∧ full Q = false := fun c' hc' hne => by
    refine ⟨(h.ll c' hc').1, fun w => ((h.ll c' hc').2 w).trans ?_⟩
    rw [h0]
    by_cases e : w = v
    · rw [if_pos e, e]
      constructor
      · rintro ⟨Q, b1, b2, b3⟩; rw [hP] at b1; injection b1 with b1; rw [← b1] at b2; exact absurd (b2.symm.trans a5) hne
      · rintro ⟨Q, b1, b2, b3⟩; injection b1 with b1; rw [← b1, hkd.1] at b2; exact absurd (b2.symm.trans a5) hne
    · rw [if_neg e]
  unfold mal1
  split
  · rename_i hfull
    refine ⟨⟨hT.inv, hT.mi, hT.tk, hT.bl, hT.zf⟩, h.fl, h.dm, h.dk, hdd, hds, fun c' hc' => ?_⟩
    show (upl t.H.L c0 _ c').Nodup ∧ ∀ w, w ∈ upl t.H.L c0 _ c' ↔ ∃ Q, eget (eset t.H.D v (alP P)) w = some Q ∧ _
    by_cases e : c' = c0
    · subst e
      rw [upl_same]
      refine ⟨nodup_removeL (h.ll c' hc').1, fun w => ?_⟩
      rw [mem_removeL, (h.ll c' hc').2 w, h0]
      by_cases e : w = v
      · rw [if_pos e]
        constructor
        · rintro ⟨_, b⟩; exact absurd e b
        · rintro ⟨Q, b1, b2, b3⟩; injection b1 with b1; rw [← b1, hfull] at b3; cases b3
      · rw [if_neg e]; exact ⟨fun q => q.1, fun q => ⟨q, e⟩⟩
    · rw [upl_other _ _ e]; exact hll c' hc' e
  · rename_i hfull
    refine ⟨hT, h.fl, h.dm, h.dk, hdd, hds, fun c' hc' => ?_⟩
    by_cases e : c' = c0
    · subst e
      refine ⟨(h.ll c' hc').1, fun w => ((h.ll c' hc').2 w).trans ?_⟩
      show _ ↔ ∃ Q, eget (eset t.H.D v (alP P)) w = some Q ∧ _
      rw [h0]
      by_cases e : w = v
      · rw [if_pos e]
        exact ⟨fun _ => ⟨_, rfl, by rw [hkd.1]; exact a5, by simpa using hfull⟩, fun _ => ⟨P, by rw [e]; exact hP, a5, q3⟩⟩
      · rw [if_neg e]
    · exact hll c' hc' e
theorem pushL_new {L : List Int} {k : Int} (h0 : 0 ≤ k) (h : k ∉ L) : Line.pushL L k = L ++ [k] := by
  unfold Line.pushL; rw [if_neg (by omega), if_neg h]
/-- A block of a small kind comes back to its page. -/
theorem fre_hi {t : T3} {c s k : Nat} {P : PG} (h : HI t) (hc : c < 8) (hs : s < Pc.slots c) (hP : eget t.H.D ((Pc.loc c s : Nat) : Int) = some P) (hk : k < Pc.per c) (hh : P.S.getD k false = false) : HIx ((Pc.loc c s : Nat) : Int) (-1) (fr1 (fr0 t c ((Pc.loc c s : Nat) : Int) P) ((Pc.loc c s : Nat) : Int) P k) := by
  obtain ⟨c0, s0, x, a1, a2, a3, a4, a5, a6, a7, a8, a9, a10, a11⟩ := h.pg hP
  obtain ⟨rfl, rfl⟩ := loc_inj0 (c := c) (c' := c0) (by omega) hs (by omega) a2 (by omega)
  generalize hv : ((Pc.loc c s : Nat) : Int) = v at *
  rw [← a5] at hk
  obtain ⟨r1, r2⟩ := a8.fr1 hk hh
  have hkS : k < P.S.length := by rw [a8.sl]; exact hk
  have hlen := freeS_len (S := t.S) a8.k8 hk a9
  have hcx : cut (freeS P t.S k).B (x * 512) = freeC (cut t.S.B P.base) P k := by rw [← a7]; exact cut_free a8.k8 a9 hk
  have hco : ∀ y, y ≠ x → cut (freeS P t.S k).B (y * 512) = cut t.S.B (y * 512) := fun y hy => free_out a8.k8 a9 hk (by rw [a7]; have := page_apart hy; omega)
  have e0 : (fr0 t c v P).S = t.S ∧ (fr0 t c v P).M = t.M ∧ (fr0 t c v P).H.D = t.H.D ∧ (fr0 t c v P).H.F = t.H.F ∧ (fr0 t c v P).H.E = t.H.E ∧ (fr0 t c v P).H.G = t.H.G ∧ (fr0 t c v P).H.W = t.H.W ∧ (fr0 t c v P).H.L = if full P then upl t.H.L c (Line.pushL (t.H.L c) v) else t.H.L := by
    unfold fr0
    cases full P <;> exact ⟨rfl, rfl, rfl, rfl, rfl, rfl, rfl, rfl⟩
  obtain ⟨f1, f2, f3, f4, f5, f6, f7, f8⟩ := e0
  generalize fr0 t c v P = t0 at *
  have h0 : ∀ w, eget (eset t.H.D v (freeP P k)) w = if w = v then some (freeP P k) else eget t.H.D w := fun w => eget_eset _ _ _ _
  have hT := h.ti.bytes (T' := (freeS P t.S k).T) a11 hlen hco
  have hgo : (fr1 t0 v P k).S = freeS P t.S k ∧ (fr1 t0 v P k).H.D = eset t.H.D v (freeP P k) ∧ (fr1 t0 v P k).H.E = t.H.E ∧ (fr1 t0 v P k).H.G = t.H.G ∧ (fr1 t0 v P k).H.F = t.H.F ∧ (fr1 t0 v P k).H.W = t.H.W ∧ (fr1 t0 v P k).M = t.M ∧ (fr1 t0 v P k).H.L = t0.H.L := by
    unfold fr1
    exact ⟨by rw [f1], by show eset t0.H.D _ _ = _; rw [f3], f5, f6, f4, f7, f2, rfl⟩
  obtain ⟨g1, g2, g3, g4, g5, g6, g7, g8⟩ := hgo
  generalize fr1 t0 v P k = t1 at *
  refine ⟨⟨by rw [g3, g4]; exact hT.inv, by rw [g7]; exact hT.mi, by rw [g3, g7]; exact hT.tk, by rw [g1, g7]; exact hT.bl, by rw [g1, g7]; exact hT.zf⟩, by rw [g5]; exact h.fl, by rw [g3, g5]; exact h.dm, by rw [g3]; exact h.dk, fun w Q hw => ?_, fun c' s' b1 b2 b3 b4 => ?_, fun c' hc' => ?_⟩
  · rw [g2, h0] at hw
    rw [g5, g3, g1]
    split at hw
    · rename_i e
      injection hw with hw
      subst hw
      exact ⟨c, s, x, a1, a2, a3, by rw [e]; exact hv.symm, a5, by rw [e]; exact a6, a7, by rw [hcx]; exact r1, .inl e⟩
    · rename_i e
      obtain ⟨c', s', x', b1, b2, b3, b4, b5, b6, b7, b8, b9⟩ := h.dd w Q hw
      refine ⟨c', s', x', b1, b2, b3, b4, b5, b6, b7, ?_, b9.imp (fun q => by omega) id⟩
      rw [hco x' (fun q => e (h.ti.inj b6 (by rw [a6, q])))]; exact b8
  · rw [g2, h0]
    rw [g5] at b3
    split
    · rfl
    · exact h.ds c' s' b1 b2 b3 b4
  · rw [g8, f8, g2]
    have hfp : full (freeP P k) = false := full_free hkS
    have hq : ∀ w c1, (∃ Q, eget (eset t.H.D v (freeP P k)) w = some Q ∧ Q.kind = c1 ∧ full Q = false) ↔ (w = v ∧ c1 = c) ∨ (w ≠ v ∧ ∃ Q, eget t.H.D w = some Q ∧ Q.kind = c1 ∧ full Q = false) := fun w c1 => by
      rw [h0]
      by_cases e : w = v
      · rw [if_pos e]
        constructor
        · rintro ⟨Q, b1, b2, b3⟩; injection b1 with b1; exact .inl ⟨e, by rw [← b2, ← b1]; exact a5⟩
        · rintro (⟨_, b⟩ | ⟨b, _⟩)
          · exact ⟨_, rfl, by rw [b]; exact a5, hfp⟩
          · exact absurd e b
      · rw [if_neg e]
        exact ⟨fun b => .inr ⟨e, b⟩, fun b => b.elim (fun q => absurd q.1 e) (fun q => q.2)⟩
    have hold := h.ll c' hc'
    cases hfu : full P with
    | false =>
      rw [if_neg (by simp)]
      refine ⟨hold.1, fun w => ?_⟩
      rw [hq, hold.2]
      by_cases e : w = v
      · constructor
        · rintro ⟨Q, b1, b2, b3⟩; rw [e, hP] at b1; injection b1 with b1; exact .inl ⟨e, by rw [← b2, ← b1]; exact a5⟩
        · rintro (⟨_, b⟩ | ⟨b, _⟩)
          · exact ⟨P, by rw [e]; exact hP, by rw [b]; exact a5, hfu⟩
          · exact absurd e b
      · exact ⟨fun b => .inr ⟨e, b⟩, fun b => b.elim (fun q => absurd q.1 e) (fun q => q.2)⟩
    | true =>
      rw [if_pos rfl]
      have hnv : ∀ c1, c1 < 8 → v ∉ t.H.L c1 := fun c1 h1 hm => by
        obtain ⟨Q, b1, b2, b3⟩ := ((h.ll c1 h1).2 v).1 hm
        rw [hP] at b1; injection b1 with b1; rw [← b1, hfu] at b3; cases b3
      by_cases e : c' = c
      · subst e
        rw [upl_same, pushL_new (by omega) (hnv c' hc')]
        refine ⟨?_, fun w => ?_⟩
        · rw [List.nodup_append]
          refine ⟨hold.1, (by simp), fun a ha b hb => ?_⟩
          rw [List.mem_singleton] at hb
          exact fun q => hnv c' hc' (by rw [← hb, ← q]; exact ha)
        · rw [hq, List.mem_append, List.mem_singleton, hold.2]
          constructor
          · rintro (b | b)
            · by_cases e : w = v
              · exact .inl ⟨e, rfl⟩
              · exact .inr ⟨e, b⟩
            · exact .inl ⟨b, rfl⟩
          · rintro (⟨b, _⟩ | ⟨_, b⟩)
            · exact .inr b
            · exact .inl b
      · rw [upl_other _ _ e]
        refine ⟨hold.1, fun w => ?_⟩
        rw [hq, hold.2]
        by_cases e2 : w = v
        · constructor
          · rintro ⟨Q, b1, b2, b3⟩; rw [e2, hP] at b1; injection b1 with b1; rw [← b1, hfu] at b3; cases b3
          · rintro (⟨_, b⟩ | ⟨b, _⟩)
            · exact absurd b e
            · exact absurd e2 b
        · exact ⟨fun b => .inr ⟨e2, b⟩, fun b => b.elim (fun q => absurd q.1 e2) (fun q => q.2)⟩
theorem HIx.full {u z : Int} {t : T3} (h : HIx u z t) (hu : ∀ P, eget t.H.D u = some P → used P ≠ 0) : HIx (-1) z t :=
  ⟨h.ti, h.fl, h.dm, h.dk, fun v P hv => by
    obtain ⟨c, s, x, a1, a2, a3, a4, a5, a6, a7, a8, a9⟩ := h.dd v P hv
    exact ⟨c, s, x, a1, a2, a3, a4, a5, a6, a7, a8, .inr (a9.elim (fun e => hu P (by rw [← e]; exact hv)) id)⟩, h.ds, h.ll⟩
/-- A page is forgotten. -/
theorem del_hi {t : T3} {c s : Nat} {P : PG} (h : HIx ((Pc.loc c s : Nat) : Int) (-1) t) (hc : c < 8) (hs : s < Pc.slots c) : HIx (-1) ((Pc.loc c s : Nat) : Int) (fr2 t c ((Pc.loc c s : Nat) : Int)) := by
  generalize hv : ((Pc.loc c s : Nat) : Int) = v at *
  have h0 : ∀ w, eget (edel t.H.D v) w = if w = v then none else eget t.H.D w := fun w => eget_edel _ _ _
  refine ⟨⟨h.ti.inv, h.ti.mi, h.ti.tk, h.ti.bl, h.ti.zf⟩, h.fl, h.dm, h.dk, fun w Q hw => ?_, fun c' s' b1 b2 b3 b4 => ?_, fun c' hc' => ?_⟩
  · have hw : eget (edel t.H.D v) w = some Q := hw
    rw [h0] at hw
    split at hw
    · cases hw
    · rename_i e
      obtain ⟨c', s', x', b1, b2, b3, b4, b5, b6, b7, b8, b9⟩ := h.dd w Q hw
      exact ⟨c', s', x', b1, b2, b3, b4, b5, b6, b7, b8, .inr (b9.elim (fun q => absurd q e) id)⟩
  · show (eget (edel t.H.D v) _).isSome = true
    rw [h0, if_neg b4]
    exact h.ds c' s' b1 b2 b3 (by omega)
  · have hold := h.ll c' hc'
    show (upl t.H.L c _ c').Nodup ∧ ∀ w, w ∈ upl t.H.L c _ c' ↔ ∃ Q, eget (edel t.H.D v) w = some Q ∧ _
    by_cases e : c' = c
    · subst e
      rw [upl_same]
      refine ⟨nodup_removeL hold.1, fun w => ?_⟩
      rw [mem_removeL, hold.2, h0]
      by_cases e : w = v
      · rw [if_pos e]
        exact ⟨fun b => absurd e b.2, fun ⟨Q, b, _⟩ => by cases b⟩
      · rw [if_neg e]; exact ⟨fun b => b.1, fun b => ⟨b, e⟩⟩
    · rw [upl_other _ _ e]
      refine ⟨hold.1, fun w => ?_⟩
      rw [hold.2, h0]
      by_cases e2 : w = v
      · rw [if_pos e2]
        constructor
        · rintro ⟨Q, b1, b2, b3⟩
          obtain ⟨c1, s1, x, a1, a2, a3, a4, a5, _⟩ := h.dd w Q b1
          have := loc_inj0 (c := c1) (c' := c) (by omega) a2 (by omega) hs (by omega)
          omega
        · rintro ⟨Q, b, _⟩; cases b
      · rw [if_neg e2]
/-- A slot is let go of. -/
theorem rel_hi {t : T3} {c s : Nat} {z : Int} (h : HIx (-1) z t) (hc : c < 24) (hs : s < Pc.slots c) (hf : (t.H.F c).getD s false = false) (hz : (c < 8 → z = ((Pc.loc c s : Nat) : Int) ∧ eget t.H.D z = none) ∧ (8 ≤ c → z = -1)) : HI (rel3 t c s) ∧ Lets t (letN t (Pc.loc c s) (Pc.pgs c)) (Pc.loc c s) (Pc.pgs c) := by
  have k := letN_ok (b := Pc.loc c s) h.ti (Pc.pgs c) (fun i hi => (h.dm c s i hc hs hi).2 hf)
  refine ⟨?_, k⟩
  obtain ⟨d1, d2, d3, d4⟩ := k.D
  have hlen : s < (t.H.F c).length := by rw [h.fl c hc]; exact hs
  have et : rel3 t c s = { letN t (Pc.loc c s) (Pc.pgs c) with H := { (letN t (Pc.loc c s) (Pc.pgs c)).H with F := upl t.H.F c ((t.H.F c).set s true) } } := by
    unfold rel3 Sh.giveS
    rw [d2, if_pos ⟨by omega, by omega⟩, Int.toNat_natCast]
  generalize letN t (Pc.loc c s) (Pc.pgs c) = t1 at *
  rw [et]
  have hF : ∀ c' s', ((upl t.H.F c ((t.H.F c).set s true)) c').getD s' false = if c' = c ∧ s' = s then true else (t.H.F c').getD s' false := fun c' s' => upl_getD hlen
  have hpg := fun c' (h : c' < 24) => (Pc.pgs_range h).1
  have hsame : ∀ c' s' i, c' < 24 → s' < Pc.slots c' → i < Pc.pgs c' → ¬ (c' = c ∧ s' = s) → eget t1.H.E ((Pc.loc c' s' + i : Nat) : Int) = eget t.H.E ((Pc.loc c' s' + i : Nat) : Int) := fun c' s' i hc' hs' hi e => k.o _ (fun j hj q => by
    have := loc_inj hc' hs' hi hc hs hj (by omega)
    exact e ⟨this.1, this.2.1⟩)
  have hDne : ∀ v P, eget t.H.D v = some P → v ≠ ((Pc.loc c s : Nat) : Int) := fun v P hv e => by
    obtain ⟨c', s', x', b1, b2, b3, b4, b5, b6, b7, b8, b9⟩ := h.dd v P hv
    have := loc_inj0 (c := c') (c' := c) (by omega) b2 hc hs (by omega)
    have hz1 := hz.1 (by omega)
    rw [e, ← hz1.1, hz1.2] at hv; cases hv
  refine ⟨⟨k.ti.inv, k.ti.mi, k.ti.tk, k.ti.bl, k.ti.zf⟩, fun c' hc' => ?_, fun c' s' i hc' hs' hi => ?_, fun v hv => ?_, fun v P hv => ?_, fun c' s' b1 b2 b3 b4 => ?_, fun c' hc' => ?_⟩
  · show (upl t.H.F c _ c').length = _
    by_cases e : c' = c
    · subst e; rw [upl_same, List.length_set]; exact h.fl c' hc'
    · rw [upl_other _ _ e]; exact h.fl c' hc'
  · show _ ↔ ((upl t.H.F c _) c').getD s' false = false
    rw [hF]
    by_cases e : c' = c ∧ s' = s
    · obtain ⟨rfl, rfl⟩ := e
      rw [if_pos ⟨rfl, rfl⟩]
      show (eget t1.H.E _).isSome = true ↔ _
      rw [k.g i hi]; simp
    · rw [if_neg e]
      show (eget t1.H.E _).isSome = true ↔ _
      rw [hsame c' s' i hc' hs' hi e]
      exact h.dm c' s' i hc' hs' hi
  · have hv : (eget t1.H.E v).isSome = true := hv
    by_cases q : ∃ i, i < Pc.pgs c ∧ v = ((Pc.loc c s + i : Nat) : Int)
    · obtain ⟨i, hi, rfl⟩ := q
      rw [k.g i hi] at hv; cases hv
    · rw [k.o v (fun i hi e => q ⟨i, hi, e⟩)] at hv
      exact h.dk v hv
  · have hv : eget t1.H.D v = some P := hv
    rw [d1] at hv
    have hne := hDne v P hv
    obtain ⟨c', s', x', b1, b2, b3, b4, b5, b6, b7, b8, b9⟩ := h.dd v P hv
    have hcs : ¬ (c' = c ∧ s' = s) := fun e => hne (by rw [b4, e.1, e.2])
    have hE := hsame c' s' 0 (by omega) b2 (hpg c' (by omega)) hcs
    rw [Nat.add_zero, ← b4] at hE
    refine ⟨c', s', x', b1, b2, ?_, b4, b5, ?_, b7, ?_, b9⟩
    · show ((upl t.H.F c _) c').getD s' false = false
      rw [hF, if_neg hcs]; exact b3
    · show eget t1.H.E v = _; rw [hE]; exact b6
    · show PI (cut t1.S.B _) P
      rw [k.c x' (fun i hi e => by
        have := h.ti.inj b6 e
        have q := loc_inj (i := 0) (by omega) b2 (hpg c' (by omega)) hc hs hi (by omega)
        exact hcs ⟨q.1, q.2.1⟩)]
      exact b8
  · have b3 : ((upl t.H.F c ((t.H.F c).set s true)) c').getD s' false = false := b3
    rw [hF] at b3
    split at b3
    · cases b3
    · rename_i e
      show (eget t1.H.D _).isSome = true
      rw [d1]
      refine h.ds c' s' b1 b2 b3 (fun q => ?_)
      by_cases h8 : c < 8
      · rw [(hz.1 h8).1] at q
        exact e (loc_inj0 (by omega) b2 hc hs (by omega))
      · rw [hz.2 (by omega)] at q; omega
  · show (t1.H.L c').Nodup ∧ ∀ v, v ∈ t1.H.L c' ↔ ∃ P, eget t1.H.D v = some P ∧ _
    rw [d3, d1]; exact h.ll c' hc'
/-! The calls. -/
def mallocT (t : T3) (n : Int) : T3 × Int × Int :=
  if Cl.kind n < 0 then (t, 0, 2)
  else if (Cl.kind n).toNat < 8 then
    match t.H.L (Cl.kind n).toNat with
    | v :: _ => match eget t.H.D v with
      | some P => (mal1 t (Cl.kind n).toNat v P, ((Pc.addr (Cl.kind n).toNat (v.toNat - Pc.loc (Cl.kind n).toNat 0) (alK P) : Nat) : Int), 0)
      | none => (t, 0, 13)
    | [] =>
      if holdOk t (Cl.kind n).toNat then
        (mal1 (new1 (holdT t (Cl.kind n).toNat) (Cl.kind n).toNat (Pc.loc (Cl.kind n).toNat (holdS t (Cl.kind n).toNat).toNat) (Tab.fnd (holdT t (Cl.kind n).toNat).H.E ((Pc.loc (Cl.kind n).toNat (holdS t (Cl.kind n).toNat).toNat : Nat) : Int)).toNat) (Cl.kind n).toNat ((Pc.loc (Cl.kind n).toNat (holdS t (Cl.kind n).toNat).toNat : Nat) : Int) (newP ((Tab.fnd (holdT t (Cl.kind n).toNat).H.E ((Pc.loc (Cl.kind n).toNat (holdS t (Cl.kind n).toNat).toNat : Nat) : Int)).toNat * 512) (Cl.kind n).toNat),
          ((Pc.addr (Cl.kind n).toNat (holdS t (Cl.kind n).toNat).toNat 0 : Nat) : Int), 0)
      else (t, 0, 13)
  else if holdOk t (Cl.kind n).toNat then (holdT t (Cl.kind n).toNat, ((Pc.addr (Cl.kind n).toNat (holdS t (Cl.kind n).toNat).toNat 0 : Nat) : Int), 0) else (t, 0, 13)
theorem kind_range (n : Int) : -1 ≤ Cl.kind n ∧ Cl.kind n < 24 := by
  unfold Cl.kind
  split
  · omega
  · split
    · omega
    · repeat' split
      all_goals omega
/-- What Malloc of a kind does. -/
inductive Mal (t : T3) (n : Int) : T3 × Int × Int → Prop
  | bad (h : Cl.kind n = -1) : Mal t n (t, 0, 2)
  | full (c : Nat) (h : Cl.kind n = (c : Int)) (hc : c < 24) (ho : holdOk t c = false) (hl : c < 8 → t.H.L c = []) : Mal t n (t, 0, 13)
  | great (c s : Nat) (xs : Nat → Nat) (h : Cl.kind n = (c : Int)) (hc : c < 24) (h8 : 8 ≤ c) (ho : holdOk t c = true) (hs : s < Pc.slots c) (hf : (t.H.F c).getD s false = true) (hl : Sh.low (t.H.F c) = (s : Int)) (hS : holdS t c = (s : Int)) (k : Took (slotT t c s) (holdT t c) (Pc.loc c s) (Pc.pgs c) xs) : Mal t n (holdT t c, ((Pc.addr c s 0 : Nat) : Int), 0)
  | new (c s : Nat) (xs : Nat → Nat) (h : Cl.kind n = (c : Int)) (hc : c < 8) (ho : holdOk t c = true) (hL : t.H.L c = []) (hs : s < Pc.slots c) (hf : (t.H.F c).getD s false = true) (hl : Sh.low (t.H.F c) = (s : Int)) (hS : holdS t c = (s : Int)) (k : Took (slotT t c s) (holdT t c) (Pc.loc c s) (Pc.pgs c) xs) (hx : Tab.fnd (holdT t c).H.E ((Pc.loc c s : Nat) : Int) = ((xs 0 : Nat) : Int)) : Mal t n (mal1 (new1 (holdT t c) c (Pc.loc c s) (xs 0)) c ((Pc.loc c s : Nat) : Int) (newP (xs 0 * 512) c), ((Pc.addr c s 0 : Nat) : Int), 0)
  | old (c s : Nat) (r : List Int) (P : PG) (h : Cl.kind n = (c : Int)) (hc : c < 8) (hs : s < Pc.slots c) (hL : t.H.L c = ((Pc.loc c s : Nat) : Int) :: r) (hP : eget t.H.D ((Pc.loc c s : Nat) : Int) = some P) (hk : P.kind = c) (hf : full P = false) : Mal t n (mal1 t c ((Pc.loc c s : Nat) : Int) P, ((Pc.addr c s (alK P) : Nat) : Int), 0)
theorem loc_sub {c s : Nat} (h : c < 8) : Pc.loc c s - Pc.loc c 0 = s := by unfold Pc.loc; rw [pgs1 h]; omega
theorem mal_cases {t : T3} {n : Int} (h : HI t) : Mal t n (mallocT t n) := by
  have hr := kind_range n
  unfold mallocT
  by_cases h0 : Cl.kind n < 0
  · rw [if_pos h0]; exact .bad (by omega)
  · rw [if_neg h0]
    obtain ⟨c, hc⟩ : ∃ c : Nat, Cl.kind n = (c : Int) := ⟨(Cl.kind n).toNat, by omega⟩
    have hc24 : c < 24 := by omega
    rw [hc, Int.toNat_natCast]
    by_cases h8 : c < 8
    · rw [if_pos h8]
      cases hL : t.H.L c with
      | nil =>
        dsimp only
        cases ho : holdOk t c with
        | false => exact .full c hc hc24 ho (fun _ => hL)
        | true =>
          obtain ⟨s, xs, e1, e2, e3, e4, k⟩ := hold_at h hc24 ho
          have hx := (k.x 0 (by rw [pgs1 h8]; omega)).2.2.2
          rw [Nat.add_zero] at hx
          have hx2 := Tab.fnd_some hx
          rw [e4, Int.toNat_natCast, hx2, Int.toNat_natCast]
          exact .new c s xs hc h8 ho hL e1 e2 e3 e4 k hx2
      | cons v r =>
        dsimp only
        obtain ⟨P, p1, p2, p3⟩ := ((h.ll c h8).2 v).1 (by rw [hL]; exact List.mem_cons_self)
        obtain ⟨c0, s, x, a1, a2, a3, a4, a5, _⟩ := h.pg p1
        obtain rfl : c0 = c := a5.symm.trans p2
        rw [p1]
        dsimp only
        subst a4
        rw [Int.toNat_natCast, loc_sub h8]
        exact .old c0 s r P hc h8 a2 hL p1 p2 p3
    · rw [if_neg h8]
      cases ho : holdOk t c with
      | false => exact .full c hc hc24 ho (fun e => absurd e h8)
      | true =>
        obtain ⟨s, xs, e1, e2, e3, e4, k⟩ := hold_at h hc24 ho
        rw [e4, Int.toNat_natCast]
        exact .great c s xs hc hc24 (by omega) ho e1 e2 e3 e4 k
theorem malloc_hi {t : T3} {n : Int} (h : HI t) : HI (mallocT t n).1 := by
  have m := mal_cases (n := n) h
  generalize mallocT t n = r at m
  cases m with
  | bad => exact h
  | full => exact h
  | great c s xs h1 h2 h3 ho => exact hold_great h h2 h3 ho
  | new c s xs h1 h2 ho hL hs hf hl hS k hx =>
    have q := new_hi h h2 hs hf k hL
    refine mal_hi (u := ((Pc.loc c s : Nat) : Int)) q h2 ?_ ?_ (.inr rfl)
    · show _ ∈ upl (holdT t c).H.L c _ c
      rw [upl_same]; exact List.mem_singleton.2 rfl
    · show eget (eset (holdT t c).H.D _ _) _ = _
      rw [eget_eset, if_pos rfl]
  | old c s r P h1 h2 hs hL hP hk hf => exact mal_hi h h2 (by rw [hL]; exact List.mem_cons_self) hP (.inl rfl)
def freeT (t : T3) (a : Int) : T3 × Int := match blk t.H a with
  | none => (t, 13)
  | some (c, s, k) => if c < 8 then (match eget t.H.D ((Pc.loc c s : Nat) : Int) with
    | some P => (free3 t c s (Pc.loc c s) P k, 0)
    | none => (t, 13)) else (rel3 t c s, 0)
/-- What Free does. -/
inductive Fre (t : T3) (a : Int) : T3 × Int → Prop
  | none (h : blk t.H a = none) : Fre t a (t, 13)
  | great (c s k : Nat) (h : blk t.H a = some (c, s, k)) (hc : c < 24) (h8 : 8 ≤ c) (hs : s < Pc.slots c) (hk : k = 0) (hf : (t.H.F c).getD s false = false) : Fre t a (rel3 t c s, 0)
  | small (c s k : Nat) (P : PG) (h : blk t.H a = some (c, s, k)) (hc : c < 8) (hs : s < Pc.slots c) (hf : (t.H.F c).getD s false = false) (hP : eget t.H.D ((Pc.loc c s : Nat) : Int) = some P) (hK : P.kind = c) (hk : k < Pc.per c) (hh : P.S.getD k false = false) : Fre t a (free3 t c s (Pc.loc c s) P k, 0)
theorem blk_some {t : T3} {a : Int} {c s k : Nat} (h : HI t) (hb : blk t.H a = some (c, s, k)) : c < 24 ∧ s < Pc.slots c ∧ k < Pc.nb c ∧ (Pc.addr c s k : Int) = a ∧ (t.H.F c).getD s false = false ∧ (c < 8 → ∃ P, eget t.H.D ((Pc.loc c s : Nat) : Int) = some P ∧ P.kind = c ∧ k < Pc.per c ∧ P.S.getD k false = false) := by
  obtain ⟨h1, h2⟩ := blk_kind hb
  obtain ⟨a1, a2, a3, a4⟩ := findR_some h1
  unfold hadB at h2
  rw [Bool.and_eq_true, Bool.not_eq_true', Bool.or_eq_true, decide_eq_true_eq] at h2
  refine ⟨a1, a2, a3, a4, h2.1, fun h8 => ?_⟩
  have hh := h2.2.resolve_left (by omega)
  unfold hasB at hh
  cases hP : eget t.H.D ((Pc.loc c s : Nat) : Int) with
  | none => rw [hP] at hh; cases hh
  | some P =>
    rw [hP] at hh
    dsimp only at hh
    unfold Pg.has at hh
    rw [decide_eq_true_eq, Int.toNat_natCast] at hh
    obtain ⟨c0, s0, x, b1, b2, b3, b4, b5, b6, b7, b8, _⟩ := h.pg hP
    have := loc_inj0 (c := c) (c' := c0) a1 a2 (by omega) b2 (by omega)
    obtain ⟨rfl, rfl⟩ := this
    refine ⟨P, rfl, b5, ?_, hh.2.2⟩
    have := b8.sl
    rw [b5] at this
    omega
theorem fre_cases {t : T3} {a : Int} (h : HI t) : Fre t a (freeT t a) := by
  unfold freeT
  cases hb : blk t.H a with
  | none => exact .none hb
  | some r =>
    obtain ⟨c, s, k⟩ := r
    obtain ⟨a1, a2, a3, a4, a5, a6⟩ := blk_some h hb
    dsimp only
    by_cases h8 : c < 8
    · obtain ⟨P, p1, p2, p3, p4⟩ := a6 h8
      rw [if_pos h8, p1]
      exact .small c s k P hb h8 a2 a5 p1 p2 p3 p4
    · rw [if_neg h8]
      exact .great c s k hb a1 (by omega) a2 (by unfold Pc.nb at a3; rw [if_neg h8] at a3; omega) a5
theorem free_hi {t : T3} {a : Int} (h : HI t) : HI (freeT t a).1 := by
  have m := fre_cases (a := a) h
  generalize freeT t a = r at m
  cases m with
  | none => exact h
  | great c s k hb h1 h8 hs hk hf => exact (rel_hi h h1 hs hf ⟨fun e => by omega, fun _ => rfl⟩).1
  | small c s k P hb h8 hs hf hP hK hk hh =>
    have q := fre_hi h h8 hs hP hk hh
    show HI (free3 t c s (Pc.loc c s) P k)
    unfold free3
    have hD : ∀ Q, eget (fr1 (fr0 t c ((Pc.loc c s : Nat) : Int) P) ((Pc.loc c s : Nat) : Int) P k).H.D ((Pc.loc c s : Nat) : Int) = some Q → Q = freeP P k := fun Q hQ => by
      have hQ : eget (eset _ _ _) _ = some Q := hQ
      rw [eget_eset, if_pos rfl] at hQ
      injection hQ with hQ; exact hQ.symm
    split
    · rename_i hu
      have q2 := del_hi (P := P) q h8 hs
      refine (rel_hi q2 (by omega) hs ?_ ⟨fun _ => ⟨rfl, ?_⟩, fun e => by omega⟩).1
      · have hF : (fr2 (fr1 (fr0 t c ((Pc.loc c s : Nat) : Int) P) ((Pc.loc c s : Nat) : Int) P k) c ((Pc.loc c s : Nat) : Int)).H.F = t.H.F := by
          unfold fr2 fr1 fr0
          cases full P <;> rfl
        rw [hF]; exact hf
      · show eget (edel _ _) _ = none
        rw [eget_edel, if_pos rfl]
    · rename_i hu
      exact q.full (fun Q hQ => by rw [hD Q hQ]; exact hu)
end Hin
end Go.Proofs.YtnheibcjcgacpaaGreatDoor
