/- Pages move, all goes; what a heap's call is to the others: plain. | All of a heap goes: plain; Drop's walk. -/
import Derived.Test.YtnheibcjcgacpaaGreatDoorHip
set_option linter.unusedVariables false
set_option linter.unusedSimpArgs false
/-! Pages move, all goes; what a heap's call is to the others: plain. -/
namespace Go.Proofs.YtnheibcjcgacpaaGreatDoor
open Go.RowKit Go.ChangeMaps
namespace Hin
open Pgi He Pg
/-- What a call is to the others: their pages stay theirs, and as they were. -/
structure Fra (t t' : T3) : Prop where
  CP : t'.M.C = t.M.C ∧ t'.M.P = t.M.P
  bl : t'.S.B.length = t.S.B.length
  oth : ∀ y : Nat, fr t.M y = false → (∀ v, eget t.H.E v ≠ some (y : Int)) → fr t'.M y = false ∧ cut t'.S.B (y * 512) = cut t.S.B (y * 512) ∧ ∀ v, eget t'.H.E v ≠ some (y : Int)
theorem Fra.refl (t : T3) : Fra t t := ⟨⟨rfl, rfl⟩, rfl, fun y h1 h2 => ⟨h1, rfl, h2⟩⟩
theorem Fra.trans {a b c : T3} (h : Fra a b) (k : Fra b c) : Fra a c :=
  ⟨⟨k.CP.1.trans h.CP.1, k.CP.2.trans h.CP.2⟩, k.bl.trans h.bl, fun y h1 h2 => by
    obtain ⟨a1, a2, a3⟩ := h.oth y h1 h2
    obtain ⟨b1, b2, b3⟩ := k.oth y a1 a3
    exact ⟨b1, b2.trans a2, b3⟩⟩
theorem Fra.fre {t t' : T3} (h : Fra t t') {y : Nat} (hf : fr t'.M y = true) : fr t.M y = true ∨ ∃ v, eget t.H.E v = some (y : Int) := by
  by_cases e : ∃ v, eget t.H.E v = some (y : Int)
  · exact .inr e
  · left
    cases q : fr t.M y with
    | true => rfl
    | false =>
      have := (h.oth y q (fun v hv => e ⟨v, hv⟩)).1
      rw [hf] at this; cases this
theorem Fra.new {t t' : T3} (h : Fra t t') {v : Int} {y : Nat} (hv : eget t'.H.E v = some (y : Int)) : fr t.M y = true ∨ ∃ u, eget t.H.E u = some (y : Int) := by
  by_cases e : ∃ v, eget t.H.E v = some (y : Int)
  · exact .inr e
  · left
    cases q : fr t.M y with
    | true => rfl
    | false => exact absurd hv ((h.oth y q (fun v hv => e ⟨v, hv⟩)).2.2 v)
theorem Took.fra {t t' : T3} {b n : Nat} {xs : Nat → Nat} (k : Took t t' b n xs) : Fra t t' :=
  ⟨k.CP, by rw [k.S], fun y h1 h2 => by
    have hne : ∀ i, i < n → xs i ≠ y := fun i hi e => by have := (k.x i hi).2.1; rw [e, h1] at this; cases this
    refine ⟨?_, by rw [k.S], fun v hv => ?_⟩
    · cases q : fr t'.M y with
      | false => rfl
      | true => have := ((k.f y).1 q).1; rw [h1] at this; cases this
    · by_cases q : ∃ i, i < n ∧ v = ((b + i : Nat) : Int)
      · obtain ⟨i, hi, rfl⟩ := q
        rw [(k.x i hi).2.2.2] at hv
        injection hv with hv
        exact hne i hi (by omega)
      · rw [k.o v (fun i hi e => q ⟨i, hi, e⟩)] at hv
        exact h2 v hv⟩
theorem Lets.fra {t t' : T3} {b n : Nat} (k : Lets t t' b n) : Fra t t' :=
  ⟨k.CP, k.bl, fun y h1 h2 => by
    refine ⟨?_, k.c y (fun i hi e => h2 _ e), fun v hv => ?_⟩
    · cases q : fr t'.M y with
      | false => rfl
      | true =>
        rcases (k.f y).1 q with e | ⟨i, hi, e⟩
        · rw [h1] at e; cases e
        · exact absurd e (h2 _)
    · by_cases q : ∃ i, i < n ∧ v = ((b + i : Nat) : Int)
      · obtain ⟨i, hi, rfl⟩ := q
        rw [k.g i hi] at hv; cases hv
      · rw [k.o v (fun i hi e => q ⟨i, hi, e⟩)] at hv
        exact h2 v hv⟩
theorem Fra.same {t t' : T3} {x : Nat} {u : Int} (hE : t'.H.E = t.H.E) (hM : t'.M = t.M) (hl : t'.S.B.length = t.S.B.length) (hx : eget t.H.E u = some (x : Int)) (hc : ∀ y, y ≠ x → cut t'.S.B (y * 512) = cut t.S.B (y * 512)) : Fra t t' :=
  ⟨by rw [hM]; exact ⟨rfl, rfl⟩, hl, fun y h1 h2 => ⟨by rw [hM]; exact h1, hc y (fun e => h2 u (by rw [hx, e])), by rw [hE]; exact h2⟩⟩
theorem Fra.eq {t t' : T3} (hE : t'.H.E = t.H.E) (hM : t'.M = t.M) (hS : t'.S = t.S) : Fra t t' :=
  ⟨by rw [hM]; exact ⟨rfl, rfl⟩, by rw [hS], fun y h1 h2 => ⟨by rw [hM]; exact h1, by rw [hS], by rw [hE]; exact h2⟩⟩
theorem mal1_fra {t : T3} {u z v : Int} {c : Nat} {P : PG} (h : HIx u z t) (hP : eget t.H.D v = some P) (hf : full P = false) : Fra t (mal1 t c v P) := by
  obtain ⟨c0, s, x, a1, a2, a3, a4, a5, a6, a7, a8, a9, a10, a11⟩ := h.pg hP
  obtain ⟨m1, m2, m3, m4, m5, m6, m7⟩ := mal1_S t c v P
  refine Fra.same (x := x) (u := v) m4 m2 ?_ a6 (fun y hy => ?_)
  · rw [m1]; exact alS_len (a8.alOk a9 hf) a8.k8 a9
  · rw [m1]; exact al_out a8 a9 (by rw [a7]; have := page_apart hy; omega)
theorem malloc_fra {t : T3} {n : Int} (h : HI t) : Fra t (mallocT t n).1 := by
  have m := mal_cases (n := n) h
  generalize mallocT t n = r at m
  cases m with
  | bad => exact Fra.refl _
  | full => exact Fra.refl _
  | great c s xs h1 h2 h8 ho hs hf hl hS k => exact (Fra.eq (t := t) (t' := slotT t c s) rfl rfl rfl).trans k.fra
  | new c s xs h1 h8 ho hL hs hf hl hS k hx =>
    have q := new_hi h h8 hs hf k hL
    refine ((Fra.eq (t := t) (t' := slotT t c s) rfl rfl rfl).trans k.fra).trans (Fra.trans (b := new1 (holdT t c) c (Pc.loc c s) (xs 0)) (Fra.eq (t := holdT t c) (t' := new1 (holdT t c) c (Pc.loc c s) (xs 0)) rfl rfl rfl) ?_)
    refine mal1_fra q ?_ (full_new h8)
    show eget (eset (holdT t c).H.D _ _) _ = _
    rw [eget_eset, if_pos rfl]
  | old c s r P h1 h8 hs hL hP hk hf => exact mal1_fra h hP hf
theorem free_fra {t : T3} {a : Int} (h : HI t) : Fra t (freeT t a).1 := by
  have m := fre_cases (a := a) h
  generalize freeT t a = r at m
  cases m with
  | none => exact Fra.refl _
  | great c s k h1 h2 h8 hs hk hf =>
    have q := (rel_hi h h2 hs hf ⟨fun e => by omega, fun _ => rfl⟩).2
    exact q.fra.trans (Fra.eq (t' := rel3 t c s) rfl rfl rfl)
  | small c s k P h1 h8 hs hf hP hK hk hh =>
    have q := fre_hi h h8 hs hP hk hh
    have hF1 : Fra t (fr1 (fr0 t c ((Pc.loc c s : Nat) : Int) P) ((Pc.loc c s : Nat) : Int) P k) := by
      obtain ⟨c0, s0, x, a1, a2, a3, a4, a5, a6, a7, a8, a9, a10, a11⟩ := h.pg hP
      have e0 : (fr0 t c ((Pc.loc c s : Nat) : Int) P).S = t.S ∧ (fr0 t c ((Pc.loc c s : Nat) : Int) P).M = t.M ∧ (fr0 t c ((Pc.loc c s : Nat) : Int) P).H.E = t.H.E := by
        unfold fr0
        cases full P <;> exact ⟨rfl, rfl, rfl⟩
      rw [← hK] at hk
      refine Fra.same (x := x) (u := ((Pc.loc c s : Nat) : Int)) e0.2.2 e0.2.1 ?_ a6 (fun y hy => ?_)
      · show (freeS P (fr0 t c _ P).S k).B.length = _; rw [e0.1]; exact freeS_len a8.k8 hk a9
      · show cut (freeS P (fr0 t c _ P).S k).B _ = _; rw [e0.1]; exact free_out a8.k8 a9 hk (by rw [a7]; have := page_apart hy; omega)
    show Fra t (free3 t c s (Pc.loc c s) P k)
    unfold free3
    split
    · have q2 := del_hi (P := P) q h8 hs
      have hF : (fr2 (fr1 (fr0 t c ((Pc.loc c s : Nat) : Int) P) ((Pc.loc c s : Nat) : Int) P k) c ((Pc.loc c s : Nat) : Int)).H.F = t.H.F := by
        unfold fr2 fr1 fr0
        cases full P <;> rfl
      have q3 := (rel_hi q2 (by omega) hs (by rw [hF]; exact hf) ⟨fun _ => ⟨rfl, by show eget (edel _ _) _ = none; rw [eget_edel, if_pos rfl]⟩, fun e => by omega⟩).2
      exact (hF1.trans (Fra.eq (t' := fr2 (fr1 (fr0 t c ((Pc.loc c s : Nat) : Int) P) ((Pc.loc c s : Nat) : Int) P k) c ((Pc.loc c s : Nat) : Int)) rfl rfl rfl)).trans (q3.fra.trans (Fra.eq (t' := rel3 (fr2 (fr1 (fr0 t c ((Pc.loc c s : Nat) : Int) P) ((Pc.loc c s : Nat) : Int) P k) c ((Pc.loc c s : Nat) : Int)) c s) rfl rfl rfl))
    · exact hF1
/-! Move. -/
def outL (t : T3) (W' : List Int) : List Int := (Tab.sortedKeys t.H.E).filter (fun v => !(decide (Co.colr t.M (Tab.fnd t.H.E v) ∈ W')))
def movD (D : List (Int × PG)) (v : Int) (x : Nat) : List (Int × PG) := match eget D v with
  | some P => eset D v { P with base := x * 512 }
  | none => D
theorem eget_movD (D : List (Int × PG)) (v : Int) (x : Nat) (u : Int) : eget (movD D v x) u = if u = v then (eget D v).map (fun P => { P with base := x * 512 }) else eget D u := by
  unfold movD
  cases h : eget D v with
  | none =>
    dsimp only
    split
    · rename_i e; rw [e, h]; rfl
    · rfl
  | some P => dsimp only; rw [eget_eset]; rfl
def movB (B : Bs) (x o : Nat) : Bs := bput (Ar.cpy B (x * 512) (o * 512) 512) (o * 512) (List.replicate 512 0)
def movN (T : List Sp) (x o : Nat) : List Sp := Ar.note (Ar.note (Ar.note T (o * 512) 512 false) (x * 512) 512 true) (o * 512) 512 true
def mov1 (t : T3) (v : Int) : T3 :=
  ⟨{ t.H with E := (Tab.swS t.H.E t.H.G v (Co.takeE t.M t.H.W).1).1, G := (Tab.swS t.H.E t.H.G v (Co.takeE t.M t.H.W).1).2, D := movD t.H.D v (Co.takeE t.M t.H.W).1.toNat },
    ⟨movB t.S.B (Co.takeE t.M t.H.W).1.toNat (Tab.fnd t.H.E v).toNat, movN t.S.T (Co.takeE t.M t.H.W).1.toNat (Tab.fnd t.H.E v).toNat⟩, Co.give (Co.take t.M t.H.W) (Tab.fnd t.H.E v).toNat⟩
def setW (t : T3) (W' : List Int) : T3 := { t with H := { t.H with W := W' } }
def movL (t : T3) (L : List Int) : T3 := L.foldl mov1 t
def moveT (t : T3) (W' : List Int) : T3 × Int := if Co.nf t.M W' < (outL t W').length then (t, 13) else (movL (setW t W') (outL t W'), 0)
/-- One page moves. -/
structure Mov1 (t : T3) (v : Int) (x o : Nat) : Prop where
  hx : x < t.M.P
  ho : o < t.M.P
  ne : x ≠ o
  te : Co.takeE t.M t.H.W = ((x : Int), 0)
  se : Tab.swE t.H.E t.H.G v (x : Int) = ((o : Int), 0)
  fo : Tab.fnd t.H.E v = (o : Int)
  e : mov1 t v = ⟨{ t.H with E := eset t.H.E v (x : Int), G := eset (edel t.H.G (o : Int)) (x : Int) v, D := movD t.H.D v x }, ⟨movB t.S.B x o, movN t.S.T x o⟩, upM (upM t.M x false) o true⟩
  fx : fr t.M x = true
  wx : inW t.M t.H.W x
  f : ∀ y, fr (mov1 t v).M y = if y = o then true else if y = x then false else fr t.M y
  nf : Co.nf (mov1 t v).M t.H.W + 1 = Co.nf t.M t.H.W
  ti : TI (mov1 t v)
  bl : (mov1 t v).S.B.length = t.S.B.length
  c1 : cut (mov1 t v).S.B (x * 512) = cut t.S.B (o * 512)
  c2 : ∀ y, y ≠ x → y ≠ o → cut (mov1 t v).S.B (y * 512) = cut t.S.B (y * 512)
theorem mov1_ok {t : T3} {v : Int} {o : Nat} (h : TI t) (hn : 0 < Co.nf t.M t.H.W) (hv : eget t.H.E v = some (o : Int)) (hw : ¬ inW t.M t.H.W o) : ∃ x, Mov1 t v x o := by
  obtain ⟨x, e1, e2, e3, e4, e5⟩ := take_ok h.mi hn
  obtain ⟨y, y1, y2, y3⟩ := h.tk v _ hv
  obtain rfl : o = y := by omega
  have hne : x ≠ o := fun e => by rw [e, y3] at e3; cases e3
  have hG := h.hol e3
  have hp := h.mi.p
  have hfd := Tab.fnd_some hv
  have hE : Tab.swE t.H.E t.H.G v (x : Int) = ((o : Int), 0) := by
    unfold Tab.swE
    rw [if_neg (by omega), hfd, if_neg (by omega), if_neg (by rw [Tab.fnd_none hG]; omega)]
  have hsw : Tab.swS t.H.E t.H.G v (x : Int) = (eset t.H.E v (x : Int), eset (edel t.H.G (o : Int)) (x : Int) v) := by
    unfold Tab.swS
    rw [hE, if_pos rfl, hfd]
  obtain ⟨m1, m2⟩ := h.mi.up e2 false
  obtain ⟨m3, m4⟩ := m1.up (x := o) y2 true
  have he : mov1 t v = ⟨{ t.H with E := eset t.H.E v (x : Int), G := eset (edel t.H.G (o : Int)) (x : Int) v, D := movD t.H.D v x }, ⟨movB t.S.B x o, movN t.S.T x o⟩, upM (upM t.M x false) o true⟩ := by
    unfold mov1
    rw [e1]
    dsimp only
    rw [hsw, hfd, Int.toNat_natCast, Int.toNat_natCast, e5, give_ok m1 y2]
  have fx := page_fit e2 h.bl
  have fo := page_fit y2 h.bl
  have hc1 : (Ar.cpy t.S.B (x * 512) (o * 512) 512).length = t.S.B.length := Ar.cpy_len fx fo
  have hco : (cut t.S.B (o * 512)).length = 512 := cut_len fo
  have hbl : (movB t.S.B x o).length = t.S.B.length := by unfold movB; rw [lenz (by rw [hc1]; exact fo)]; exact hc1
  have ff : ∀ y, fr (upM (upM t.M x false) o true) y = if y = o then true else if y = x then false else fr t.M y := fun y => by rw [m4, m2]
  have c1 : cut (movB t.S.B x o) (x * 512) = cut t.S.B (o * 512) := by
    unfold movB
    rw [cutz_out (n := 512) (b := x * 512) (by rw [hc1]; exact fo) (page_apart (Ne.symm hne))]
    exact cut_all fx hco
  have c2 : ∀ y, y ≠ x → y ≠ o → cut (movB t.S.B x o) (y * 512) = cut t.S.B (y * 512) := fun y h1 h2 => by
    unfold movB
    rw [cutz_out (n := 512) (b := y * 512) (by rw [hc1]; exact fo) (page_apart (Ne.symm h2))]
    exact cut_out (by show x * 512 + (cut t.S.B (o * 512)).length ≤ _; rw [hco]; exact fx) (by show x * 512 + (cut t.S.B (o * 512)).length ≤ _ ∨ _; rw [hco]; exact page_apart (Ne.symm h1))
  have hsv : ∀ u, eget (eset t.H.E v (x : Int)) u = if u = v then some (x : Int) else eget t.H.E u := fun u => eget_eset _ _ _ _
  refine ⟨x, e2, y2, hne, e1, hE, hfd, he, e3, e4, by rw [he]; exact ff, ?_, ?_, by rw [he]; exact hbl, by rw [he]; exact c1, by rw [he]; exact c2⟩
  · rw [he]
    show Co.nf (upM (upM t.M x false) o true) t.H.W + 1 = _
    rw [nf_out m1 y2 true _ hw, nf_down h.mi e2 e3 _ e4]
  · rw [he]
    refine ⟨?_, m3, fun u p hu => ?_, by show (movB _ _ _).length = _; rw [hbl]; exact h.bl, fun y hy hf => ?_⟩
    · have := h.inv.sw v (x : Int)
      rw [hsw] at this; exact this
    · have hu : eget (eset t.H.E v (x : Int)) u = some p := hu
      rw [hsv] at hu
      split at hu
      · injection hu with hu
        exact ⟨x, hu.symm, e2, by show fr (upM (upM t.M x false) o true) x = false; rw [ff, if_neg hne, if_pos rfl]⟩
      · rename_i huv
        obtain ⟨y, z1, z2, z3⟩ := h.tk u p hu
        refine ⟨y, z1, z2, ?_⟩
        show fr (upM (upM t.M x false) o true) y = false
        rw [ff, if_neg (fun e => huv (h.inj hu (by rw [hv, z1, e])))]
        split
        · rfl
        · exact z3
    · have hf : fr (upM (upM t.M x false) o true) y = true := hf
      show cut (movB t.S.B x o) _ = _
      rw [ff] at hf
      by_cases e : y = o
      · rw [e]; unfold movB; exact cutz_all (n := 512) (by rw [hc1]; exact fo) rfl
      · rw [if_neg e] at hf
        by_cases e2 : y = x
        · rw [if_pos e2] at hf; cases hf
        · rw [if_neg e2] at hf
          rw [c2 y e2 e]; exact h.zf y hy hf
theorem PI.based {C : Bs} {P : PG} (h : PI C P) (b : Nat) : PI C { P with base := b } :=
  ⟨h.len, h.k8, h.sl, h.fr, h.rl, h.wl, h.nd, h.fs, h.sf, h.sn, h.z⟩
theorem mov1_hi {t : T3} {v : Int} {x o : Nat} (h : HI t) (hv : eget t.H.E v = some (o : Int)) (k : Mov1 t v x o) : HI (mov1 t v) := by
  have hsv : ∀ u, eget (mov1 t v).H.E u = if u = v then some (x : Int) else eget t.H.E u := fun u => by rw [k.e]; exact eget_eset _ _ _ _
  have hD : ∀ u, eget (mov1 t v).H.D u = if u = v then (eget t.H.D v).map (fun P => { P with base := x * 512 }) else eget t.H.D u := fun u => by rw [k.e]; exact eget_movD _ _ _ _
  have hF : (mov1 t v).H.F = t.H.F := by rw [k.e]
  have hL : (mov1 t v).H.L = t.H.L := by rw [k.e]
  have hs : ∀ u, (eget (mov1 t v).H.E u).isSome = (eget t.H.E u).isSome := fun u => by
    rw [hsv]
    split
    · rename_i e; rw [e, hv]; rfl
    · rfl
  have hDs : ∀ u, (eget (mov1 t v).H.D u).isSome = (eget t.H.D u).isSome := fun u => by
    rw [hD]
    split
    · rename_i e; rw [e]; cases eget t.H.D v <;> rfl
    · rfl
  have c1 := k.c1
  have c2 := k.c2
  have ti := k.ti
  have hfx := k.fx
  generalize mov1 t v = t1 at *
  refine ⟨ti, by rw [hF]; exact h.fl, fun c s i h1 h2 h3 => by rw [hs, hF]; exact h.dm c s i h1 h2 h3, fun u hu => h.dk u (by rw [← hs]; exact hu), fun u Q hu => ?_, fun c s h1 h2 h3 h4 => by rw [hDs]; rw [hF] at h3; exact h.ds c s h1 h2 h3 h4, fun c hc => ?_⟩
  · rw [hD] at hu
    rw [hF, hsv]
    split at hu
    · rename_i e
      cases hP : eget t.H.D v with
      | none => rw [hP] at hu; cases hu
      | some P =>
        rw [hP] at hu
        injection hu with hu
        subst hu
        obtain ⟨c, s, y, b1, b2, b3, b4, b5, b6, b7, b8, b9⟩ := h.dd v P hP
        rw [hv] at b6
        obtain rfl : o = y := by injection b6 with b6; omega
        refine ⟨c, s, x, b1, b2, b3, by rw [e]; exact b4, b5, by rw [if_pos e], rfl, ?_, by rw [e]; exact b9⟩
        rw [c1]
        exact PI.based b8 _
    · rename_i e
      obtain ⟨c, s, y, b1, b2, b3, b4, b5, b6, b7, b8, b9⟩ := h.dd u Q hu
      refine ⟨c, s, y, b1, b2, b3, b4, b5, by rw [if_neg e]; exact b6, b7, ?_, b9⟩
      obtain ⟨z, z1, z2, z3⟩ := h.ti.tk u _ b6
      obtain rfl : y = z := by omega
      rw [c2 y (fun q => by rw [← q, z3] at hfx; cases hfx) (fun q => e (h.ti.inj b6 (by rw [hv, q])))]
      exact b8
  · rw [hL]
    refine ⟨(h.ll c hc).1, fun u => ((h.ll c hc).2 u).trans ?_⟩
    rw [hD]
    by_cases e : u = v
    · rw [if_pos e, e]
      cases eget t.H.D v with
      | none => exact ⟨fun ⟨P, q, _⟩ => (by cases q), fun ⟨P, q, _⟩ => (by cases q)⟩
      | some P =>
        constructor
        · rintro ⟨Q, q1, q2, q3⟩; injection q1 with q1; subst q1; exact ⟨_, rfl, q2, q3⟩
        · rintro ⟨Q, q1, q2, q3⟩; injection q1 with q1; subst q1; exact ⟨P, rfl, q2, q3⟩
    · rw [if_neg e]
theorem mov1_fra {t : T3} {v : Int} {x o : Nat} (h : TI t) (hv : eget t.H.E v = some (o : Int)) (k : Mov1 t v x o) : Fra t (mov1 t v) := by
  refine ⟨by rw [k.e]; exact ⟨rfl, rfl⟩, k.bl, fun y h1 h2 => ?_⟩
  have hyo : y ≠ o := fun e => h2 v (by rw [hv, e])
  have hyx : y ≠ x := fun e => by have := k.fx; rw [← e, h1] at this; cases this
  refine ⟨by rw [k.f, if_neg hyo, if_neg hyx]; exact h1, k.c2 y hyx hyo, fun u hu => ?_⟩
  rw [k.e] at hu
  have hu : eget (eset t.H.E v (x : Int)) u = some (y : Int) := hu
  rw [eget_eset] at hu
  split at hu
  · injection hu with hu; exact hyx (by omega)
  · exact h2 u hu
/-- Pages move. -/
structure Movd (t t' : T3) (L : List Int) : Prop where
  hi : HI t'
  fra : Fra t t'
  F : t'.H.F = t.H.F ∧ t'.H.L = t.H.L ∧ t'.H.W = t.H.W
  e : ∀ v (o : Nat), eget t.H.E v = some (o : Int) → ∃ x : Nat, eget t'.H.E v = some (x : Int) ∧ cut t'.S.B (x * 512) = cut t.S.B (o * 512) ∧ (v ∈ L → inW t.M t.H.W x) ∧ (v ∉ L → x = o)
  n : ∀ v, (eget t'.H.E v).isSome = (eget t.H.E v).isSome
  d : ∀ v, (eget t'.H.D v).map (fun P => { P with base := 0 }) = (eget t.H.D v).map (fun P => { P with base := 0 })
  T : t'.S.T.length ≤ t.S.T.length + 3 * L.length
  nf : Co.nf t'.M t.H.W + L.length = Co.nf t.M t.H.W
theorem movL_ok : ∀ (L : List Int) (t : T3), HI t → (∀ v ∈ L, ∃ o : Nat, eget t.H.E v = some (o : Int) ∧ ¬ inW t.M t.H.W o) → L.Nodup → L.length ≤ Co.nf t.M t.H.W → Movd t (movL t L) L
  | [], t, h, _, _, _ => ⟨h, Fra.refl _, ⟨rfl, rfl, rfl⟩, fun v o hv => ⟨o, hv, rfl, fun e => by simp at e, fun _ => rfl⟩, fun v => rfl, fun v => rfl, Nat.le_refl _, rfl⟩
  | v :: L, t, h, hL, hn, hl => by
    obtain ⟨o, hv, hw⟩ := hL v List.mem_cons_self
    rw [List.length_cons] at hl
    rw [List.nodup_cons] at hn
    obtain ⟨x, k⟩ := mov1_ok h.ti (by omega) hv hw
    have h1 := mov1_hi h hv k
    have f1 := mov1_fra h.ti hv k
    have hsv : ∀ u, eget (mov1 t v).H.E u = if u = v then some (x : Int) else eget t.H.E u := fun u => by rw [k.e]; exact eget_eset _ _ _ _
    have hD : ∀ u, eget (mov1 t v).H.D u = if u = v then (eget t.H.D v).map (fun P => { P with base := x * 512 }) else eget t.H.D u := fun u => by rw [k.e]; exact eget_movD _ _ _ _
    have hFW : (mov1 t v).H.F = t.H.F ∧ (mov1 t v).H.L = t.H.L ∧ (mov1 t v).H.W = t.H.W := by rw [k.e]; exact ⟨rfl, rfl, rfl⟩
    have hC := f1.CP.1
    have hT : (mov1 t v).S.T.length ≤ t.S.T.length + 3 := by
      rw [k.e]
      show (movN t.S.T x o).length ≤ _
      unfold movN
      have q1 := Ar.note_len (Ar.note (Ar.note t.S.T (o * 512) 512 false) (x * 512) 512 true) (o * 512) 512 true
      have q2 := Ar.note_len (Ar.note t.S.T (o * 512) 512 false) (x * 512) 512 true
      have q3 := Ar.note_len t.S.T (o * 512) 512 false
      omega
    have hnf := k.nf
    have hc1 := k.c1
    have hc2 := k.c2
    have hfx := k.fx
    have hwx := k.wx
    have m := movL_ok L (mov1 t v) h1 (fun u hu => by
      obtain ⟨o', q1, q2⟩ := hL u (List.mem_cons_of_mem _ hu)
      refine ⟨o', ?_, by unfold inW at q2 ⊢; rw [hC, hFW.2.2]; exact q2⟩
      rw [hsv, if_neg (show u ≠ v from fun e => hn.1 (e ▸ hu))]; exact q1) hn.2 (by rw [hFW.2.2]; omega)
    show Movd t (movL (mov1 t v) L) (v :: L)
    generalize movL (mov1 t v) L = t2 at *
    generalize mov1 t v = t1 at *
    refine ⟨m.hi, f1.trans m.fra, ⟨m.F.1.trans hFW.1, m.F.2.1.trans hFW.2.1, m.F.2.2.trans hFW.2.2⟩, fun u o' hu => ?_, fun u => ?_, fun u => ?_, ?_, ?_⟩
    · by_cases e : u = v
      · subst e
        rw [hv] at hu
        obtain rfl : o = o' := by injection hu with hu; omega
        obtain ⟨y, y1, y2, y3, y4⟩ := m.e u x (by rw [hsv, if_pos rfl])
        obtain rfl := y4 hn.1
        exact ⟨y, y1, y2.trans hc1, fun _ => hwx, fun q => absurd List.mem_cons_self q⟩
      · obtain ⟨y, y1, y2, y3, y4⟩ := m.e u o' (by rw [hsv, if_neg e]; exact hu)
        obtain ⟨z, z1, z2, z3⟩ := h.ti.tk u _ hu
        obtain rfl : o' = z := by omega
        refine ⟨y, y1, y2.trans (hc2 _ (fun q => by rw [← q, z3] at hfx; cases hfx) (fun q => e (h.ti.inj hu (by rw [hv, q])))), fun q => ?_, fun q => y4 (fun w => q (List.mem_cons_of_mem _ w))⟩
        have := y3 ((List.mem_cons.1 q).resolve_left e)
        unfold inW at this ⊢
        rw [hC, hFW.2.2] at this; exact this
    · rw [m.n, hsv]
      split
      · rename_i e; rw [e, hv]; rfl
      · rfl
    · rw [m.d, hD]
      split
      · rename_i e; rw [e]; cases eget t.H.D v <;> rfl
      · rfl
    · have := m.T
      rw [List.length_cons]; omega
    · have := m.nf
      rw [hFW.2.2] at this
      rw [List.length_cons]; omega
theorem TI.pg {t : T3} (h : TI t) (k : Int) : Tab.fnd t.H.E k < t.M.P := by
  have hp := h.mi.p
  cases e : eget t.H.E k with
  | none => rw [Tab.fnd_none e]; omega
  | some q => obtain ⟨x, rfl, hx, -⟩ := h.tk k q e; rw [Tab.fnd_some e]; omega
theorem movL_snoc (t : T3) (L : List Int) (k : Int) : movL t (L ++ [k]) = mov1 (movL t L) k := by simp [movL]
/-- The next page that moves. -/
theorem movL_at {t : T3} {L : List Int} (h : HI t) (hL : ∀ v ∈ L, ∃ o : Nat, eget t.H.E v = some (o : Int) ∧ ¬ inW t.M t.H.W o) (hn : L.Nodup) (hl : L.length ≤ Co.nf t.M t.H.W) {k : Nat} (hk : k < L.length) :
    ∃ x o : Nat, eget (movL t (L.take k)).H.E (L.getD k 0) = some (o : Int) ∧ Mov1 (movL t (L.take k)) (L.getD k 0) x o ∧ HI (movL t (L.take k)) ∧ movL t (L.take (k + 1)) = mov1 (movL t (L.take k)) (L.getD k 0) ∧ (movL t (L.take k)).S.T.length ≤ t.S.T.length + 3 * k ∧ (movL t (L.take k)).H.W = t.H.W := by
  have hlk : (L.take k).length = k := by rw [List.length_take]; omega
  have m := movL_ok (L.take k) t h (fun v hv => hL v (List.mem_of_mem_take hv)) (hn.sublist (List.take_sublist _ _)) (by omega)
  have hsn := Co.take_snocI L k hk
  have hm : L.getD k 0 ∈ L := by rw [List.getD_eq_getElem?_getD, List.getElem?_eq_getElem hk]; exact List.getElem_mem hk
  obtain ⟨o, ho, hw⟩ := hL _ hm
  have hnt : L.getD k 0 ∉ L.take k := fun e => by
    have h1 := hn.sublist (List.take_sublist (k + 1) L)
    rw [hsn, List.nodup_append] at h1
    exact h1.2.2 _ e _ (by simp) rfl
  obtain ⟨x0, e1, e2, e3, e4⟩ := m.e _ o ho
  obtain rfl := e4 hnt
  have hnf := m.nf
  obtain ⟨x, q⟩ := mov1_ok m.hi.ti (by rw [m.F.2.2]; omega) e1 (by unfold inW at hw ⊢; rw [m.fra.CP.1, m.F.2.2]; exact hw)
  have hT := m.T
  exact ⟨x, x0, e1, q, m.hi, by rw [hsn, movL_snoc], by rw [hlk] at hT; exact hT, m.F.2.2⟩
theorem HI.setW {t : T3} (h : HI t) (W' : List Int) : HI (setW t W') := ⟨⟨h.ti.inv, h.ti.mi, h.ti.tk, h.ti.bl, h.ti.zf⟩, h.fl, h.dm, h.dk, h.dd, h.ds, h.ll⟩
theorem mem_sortedKeys {E : Tab.Prs} {v : Int} : v ∈ Tab.sortedKeys E ↔ (eget E v).isSome = true := by
  unfold Tab.sortedKeys
  rw [List.mem_mergeSort, mem_keysOf]
theorem nodup_sortedKeys {E G : Tab.Prs} (h : Tab.Inv E G) : (Tab.sortedKeys E).Nodup := by
  unfold Tab.sortedKeys
  exact (List.mergeSort_perm _ _).nodup_iff.2 h.ke
theorem mem_outL {t : T3} (h : HI t) {W' : List Int} {v : Int} : v ∈ outL t W' ↔ ∃ o : Nat, eget t.H.E v = some (o : Int) ∧ ¬ inW t.M W' o := by
  unfold outL
  rw [List.mem_filter, mem_sortedKeys]
  have hcol : ∀ o : Nat, eget t.H.E v = some (o : Int) → Co.colr t.M (Tab.fnd t.H.E v) = ((o % t.M.C : Nat) : Int) := fun o ho => by
    obtain ⟨z, z1, z2, z3⟩ := h.ti.tk v _ ho
    obtain rfl : o = z := by omega
    rw [Tab.fnd_some ho]
    unfold Co.colr
    rw [if_pos ⟨by omega, by omega⟩]
    omega
  constructor
  · rintro ⟨h1, h2⟩
    obtain ⟨p, hp⟩ := Option.isSome_iff_exists.1 h1
    obtain ⟨o, rfl, -, -⟩ := h.ti.tk v p hp
    refine ⟨o, hp, ?_⟩
    rw [hcol o hp] at h2
    simpa [inW] using h2
  · rintro ⟨o, ho, hw⟩
    refine ⟨by rw [ho]; rfl, ?_⟩
    rw [hcol o ho]
    simpa [inW] using hw
theorem move_ok {t : T3} (h : HI t) (W' : List Int) (hn : (outL t W').length ≤ Co.nf t.M W') : Movd (setW t W') (movL (setW t W') (outL t W')) (outL t W') :=
  movL_ok _ _ (h.setW W') (fun v hv => (mem_outL h).1 hv) ((nodup_sortedKeys h.ti.inv).filter _) hn
theorem move_hi {t : T3} (h : HI t) (W' : List Int) : HI (moveT t W').1 := by
  unfold moveT
  split
  · exact h
  · rename_i e; exact (move_ok h W' (by omega)).hi
theorem move_fra {t : T3} (h : HI t) (W' : List Int) : Fra t (moveT t W').1 := by
  unfold moveT
  split
  · exact Fra.refl _
  · rename_i e; exact (Fra.eq (t := t) (t' := setW t W') rfl rfl rfl).trans (move_ok h W' (by omega)).fra
/-- Behind a move all pages are of the window. -/
theorem move_wi {t : T3} (h : HI t) (W' : List Int) (hn : (outL t W').length ≤ Co.nf t.M W') : WI (movL (setW t W') (outL t W')) := by
  have m := move_ok h W' hn
  intro v x hx
  have hs : (eget t.H.E v).isSome = true := (m.n v).symm.trans (by rw [hx]; rfl)
  obtain ⟨p, hp⟩ := Option.isSome_iff_exists.1 hs
  obtain ⟨o, rfl, -, -⟩ := h.ti.tk v p hp
  obtain ⟨y, y1, y2, y3, y4⟩ := m.e v o hp
  rw [hx] at y1
  obtain rfl : x = y := by injection y1 with y1; omega
  have hq : inW t.M W' x := by
    by_cases q : v ∈ outL t W'
    · exact y3 q
    · obtain rfl := y4 q
      by_cases w : inW t.M W' x
      · exact w
      · exact absurd ((mem_outL h).2 ⟨x, hp, w⟩) q
  unfold inW at hq ⊢
  rw [m.fra.CP.1, m.F.2.2]; exact hq
end Hin
end Go.Proofs.YtnheibcjcgacpaaGreatDoor

/-! All of a heap goes: plain; Drop's walk. -/
namespace Go.Proofs.YtnheibcjcgacpaaGreatDoor
open Go.RowKit Go.ChangeMaps
namespace Hin
open Pgi He Pg
def letL (t : T3) (L : List Int) : T3 := L.foldl let3 t
theorem letL_snoc (t : T3) (L : List Int) (k : Int) : letL t (L ++ [k]) = let3 (letL t L) k := by simp [letL]
theorem letL_T : ∀ (L : List Int) (t : T3), (letL t L).S.T.length ≤ t.S.T.length + L.length
  | [], t => Nat.le_refl _
  | k :: L, t => by
    have h1 := letL_T L (let3 t k)
    have h2 := letS_T t.H t.S k
    have h3 : (let3 t k).S.T.length ≤ t.S.T.length + 1 := h2
    show (letL (let3 t k) L).S.T.length ≤ _
    rw [List.length_cons]
    omega
def dropT (t : T3) : T3 := { letL t (Tab.sortedKeys t.H.E) with H := { (letL t (Tab.sortedKeys t.H.E)).H with F := emptyF, L := fun _ => [], D := [] } }
structure LetL (t t' : T3) (L : List Int) : Prop where
  ti : TI t'
  D : t'.H.D = t.H.D ∧ t'.H.F = t.H.F ∧ t'.H.L = t.H.L ∧ t'.H.W = t.H.W
  fra : Fra t t'
  f : ∀ y : Nat, fr t'.M y = true ↔ fr t.M y = true ∨ ∃ v, v ∈ L ∧ eget t.H.E v = some (y : Int)
  len : t'.H.E.length + L.length = t.H.E.length
theorem letL_ok : ∀ (L : List Int) (t : T3), TI t → (∀ v ∈ L, (eget t.H.E v).isSome = true) → L.Nodup → LetL t (letL t L) L
  | [], t, h, _, _ => ⟨h, ⟨rfl, rfl, rfl, rfl⟩, Fra.refl _, fun y => ⟨fun q => .inl q, fun q => q.elim id (fun ⟨v, hv, _⟩ => by simp at hv)⟩, rfl⟩
  | v :: L, t, h, hL, hn => by
    rw [List.nodup_cons] at hn
    obtain ⟨p, hp⟩ := Option.isSome_iff_exists.1 (hL v List.mem_cons_self)
    obtain ⟨x, rfl, -, -⟩ := h.tk v p hp
    obtain ⟨a1, a2, a3, a4⟩ := let3_ok h hp
    have hfit := page_fit a1 h.bl
    obtain ⟨m1, m2⟩ := h.mi.up a1 true
    have hE : ∀ u, eget (let3 t v).H.E u = if u = v then none else eget t.H.E u := fun u => by rw [a2]; exact eget_edel _ _ _
    have hM : ∀ y, fr (let3 t v).M y = if y = x then true else fr t.M y := fun y => by rw [a2]; exact m2 y
    have hD : (let3 t v).H.D = t.H.D ∧ (let3 t v).H.F = t.H.F ∧ (let3 t v).H.L = t.H.L ∧ (let3 t v).H.W = t.H.W := by rw [a2]; exact ⟨rfl, rfl, rfl, rfl⟩
    have hlen : (let3 t v).H.E.length + 1 = t.H.E.length := by rw [a2]; exact filter_one h.inv.ke (by rw [hp]; rfl)
    have hF : Fra t (let3 t v) := by
      refine ⟨by rw [a2]; exact ⟨rfl, rfl⟩, by rw [a2]; exact lenz hfit, fun y h1 h2 => ?_⟩
      have hne : y ≠ x := fun e => h2 v (by rw [hp, e])
      refine ⟨by rw [hM, if_neg hne]; exact h1, ?_, fun u hu => ?_⟩
      · rw [a2]
        exact cutz_out (n := 512) hfit (page_apart (Ne.symm hne))
      · rw [hE] at hu
        split at hu
        · cases hu
        · exact h2 u hu
    have k := letL_ok L (let3 t v) a4 (fun u hu => by rw [hE, if_neg (show u ≠ v from fun e => hn.1 (e ▸ hu))]; exact hL u (List.mem_cons_of_mem _ hu)) hn.2
    show LetL t (letL (let3 t v) L) (v :: L)
    refine ⟨k.ti, ⟨k.D.1.trans hD.1, k.D.2.1.trans hD.2.1, k.D.2.2.1.trans hD.2.2.1, k.D.2.2.2.trans hD.2.2.2⟩, hF.trans k.fra, fun y => ?_, ?_⟩
    · rw [k.f, hM]
      constructor
      · rintro (q | ⟨u, q1, q2⟩)
        · split at q
          · rename_i e; exact .inr ⟨v, List.mem_cons_self, by rw [hp, e]⟩
          · exact .inl q
        · rw [hE] at q2
          split at q2
          · cases q2
          · exact .inr ⟨u, List.mem_cons_of_mem _ q1, q2⟩
      · rintro (q | ⟨u, q1, q2⟩)
        · left; split
          · rfl
          · exact q
        · rcases List.mem_cons.1 q1 with e | e
          · subst e
            rw [hp] at q2
            left; rw [if_pos (by injection q2 with q2; omega)]
          · exact .inr ⟨u, e, by rw [hE, if_neg (show u ≠ v from fun w => hn.1 (w ▸ e))]; exact q2⟩
    · have := k.len
      rw [List.length_cons]; omega
structure Drp (t t' : T3) : Prop where
  hi : HI t'
  fra : Fra t t'
  e : t'.H.E = [] ∧ t'.H.W = t.H.W
  f : ∀ y : Nat, fr t'.M y = true ↔ fr t.M y = true ∨ ∃ v, eget t.H.E v = some (y : Int)
theorem nil_of_none {α : Type} {E : List (Int × α)} (h : ∀ v, eget E v = none) : E = [] := by
  cases E with
  | nil => rfl
  | cons p E => have := h p.1; rw [eget_cons, if_pos rfl] at this; cases this
theorem drop_ok {t : T3} (h : HI t) : Drp t (dropT t) := by
  have k := letL_ok (Tab.sortedKeys t.H.E) t h.ti (fun v hv => mem_sortedKeys.1 hv) (nodup_sortedKeys h.ti.inv)
  have hl := Tab.sortedKeys_len t.H.E
  unfold dropT
  generalize letL t (Tab.sortedKeys t.H.E) = t1 at *
  have hE : t1.H.E = [] := List.eq_nil_of_length_eq_zero (by have := k.len; omega)
  have hG : t1.H.G = [] := nil_of_none (fun v => by
    cases e : eget t1.H.G v with
    | none => rfl
    | some p => have := k.ti.inv.ba v p e; rw [hE] at this; cases this)
  refine ⟨⟨⟨k.ti.inv, k.ti.mi, k.ti.tk, k.ti.bl, k.ti.zf⟩, fun c hc => ?_, fun c s i hc hs hi => ?_, fun v hv => ?_, fun v P hv => ?_, fun c s hc hs hf _ => ?_, fun c hc => ⟨List.nodup_nil, fun v => ?_⟩⟩, k.fra.trans (Fra.eq rfl rfl rfl), ⟨hE, k.D.2.2.2⟩, fun y => (k.f y).trans ?_⟩
  · show (List.replicate _ _).length = _; exact List.length_replicate
  · show (eget t1.H.E _).isSome = true ↔ (List.replicate _ _).getD s false = false
    rw [hE, getD_rep _ _ hs]
    simp [eget_nil]
  · have hv : (eget t1.H.E v).isSome = true := hv
    rw [hE] at hv; cases hv
  · cases hv
  · have hf : (List.replicate (Pc.slots c) true).getD s false = false := hf
    rw [getD_rep _ _ hs] at hf; cases hf
  · constructor
    · intro q; cases q
    · rintro ⟨P, q, _⟩; cases q
  · constructor
    · rintro (q | ⟨v, _, q⟩)
      · exact .inl q
      · exact .inr ⟨v, q⟩
    · rintro (q | ⟨v, q⟩)
      · exact .inl q
      · exact .inr ⟨v, mem_sortedKeys.2 (by rw [q]; rfl), q⟩
theorem nodup_le : ∀ (n : Nat) (L : List Nat), L.Nodup → (∀ x ∈ L, x < n) → L.length ≤ n
  | 0, L, _, h => by
    cases L with
    | nil => exact Nat.le_refl _
    | cons x L => exact absurd (h x List.mem_cons_self) (Nat.not_lt_zero _)
  | n + 1, L, hn, h => by
    by_cases e : n ∈ L
    · have h1 := nodup_le n (L.erase n) (hn.erase n) (fun x hx => by
        have h2 := h x (List.mem_of_mem_erase hx)
        have h3 : x ≠ n := fun q => by rw [q] at hx; exact hn.not_mem_erase hx
        omega)
      have h2 := List.length_erase_of_mem e
      omega
    · have := nodup_le n L hn (fun x hx => by
        have h2 := h x hx
        have h3 : x ≠ n := fun q => e (q ▸ hx)
        omega)
      omega
theorem nodup_map {α β : Type} (f : α → β) : ∀ (L : List α), L.Nodup → (∀ x ∈ L, ∀ y ∈ L, f x = f y → x = y) → (L.map f).Nodup
  | [], _, _ => List.nodup_nil
  | a :: L, hn, h => by
    rw [List.nodup_cons] at hn
    rw [List.map_cons, List.nodup_cons]
    refine ⟨fun q => ?_, nodup_map f L hn.2 (fun x hx y hy => h x (List.mem_cons_of_mem _ hx) y (List.mem_cons_of_mem _ hy))⟩
    obtain ⟨y, hy, e⟩ := List.mem_map.1 q
    have := h y (List.mem_cons_of_mem _ hy) a List.mem_cons_self e
    exact hn.1 (this ▸ hy)
theorem inv_len {E G : Tab.Prs} (h : Tab.Inv E G) : E.length ≤ 6400 := by
  have hk : ∀ x ∈ keysOf E, 256 ≤ x ∧ x < 6400 := fun x hx => by
    obtain ⟨p, hp⟩ := Option.isSome_iff_exists.1 ((mem_keysOf E x).1 hx)
    have := h.ab x p hp
    exact ⟨this.2.1, this.2.2.1⟩
  have h1 := nodup_le 6400 ((keysOf E).map Int.toNat) (nodup_map _ _ h.ke (fun x hx y hy e => by have := hk x hx; have := hk y hy; omega)) (fun x hx => by
    obtain ⟨y, hy, rfl⟩ := List.mem_map.1 hx
    have := hk y hy; omega)
  rw [List.length_map] at h1
  unfold keysOf at h1
  rw [List.length_map] at h1; exact h1
/-! Drop's walk. -/
theorem take_snocI (W : List Int) (j : Nat) (h : j < W.length) : W.take (j + 1) = W.take j ++ [W.getD j 0] := Co.take_snocI W j h
theorem letL_same : ∀ (L : List Int) (t : T3), (letL t L).H.D = t.H.D ∧ (letL t L).H.W = t.H.W
  | [], _ => ⟨rfl, rfl⟩
  | k :: L, t => letL_same L (let3 t k)
/-- The heap's boxes are made anew. -/
theorem HJ.reset {w w' : World} {X : HX} {g : Int → Pla} {p : Ar.Pl} {v : Value} {cp : Co.Pla} {H : HS} {S : Ar.AS} {M : Co.CM} (j : HJ w X g p v cp H S M) {D : Nat} {sb : Nat → Nat} {sv : Nat → Value} {lb lm : Nat → Nat} (e : EI w X.hb (ptr p.a) (ptr cp.m) X.u (ptr X.tb) (fun c => ptr (X.sb c)) (fun c => ptr (X.lb c)) D 24 8 sb sv lb lm w') :
    HG w X g p v cp H.D M.C ⟨X.hb, X.u, X.tb, X.tm, X.tn, sb, sv, lb, lm, D⟩ g v { H with F := emptyF, L := fun _ => [], D := [] } S M w' := by
  have na := j.h.apart
  have h1 : X.u.ownBlock ≠ some X.hb := fun q => na .win .box trivial trivial (by simp) X.hb q rfl
  have h2 := fun q => na .box .tab trivial trivial (by simp) X.hb rfl q
  have h3 := fun x q => na .win .tab trivial trivial (by simp) x q
  have a := e.at g j.h.win j.h.tab j.h.inv h1 ⟨fun q => h2 (.inl q), fun q => h2 (.inr (.inl q)), fun q => h2 (.inr (.inr q))⟩ ⟨fun q => h3 _ q (.inl rfl), fun q => h3 _ q (.inr (.inl rfl)), fun q => h3 _ q (.inr (.inr rfl))⟩
  have kk := e.keeps
  have hb : Fp X g H.D X.hb := ⟨.box, trivial, rfl⟩
  have fr : ∀ x, Fp ⟨X.hb, X.u, X.tb, X.tm, X.tn, sb, sv, lb, lm, D⟩ g [] x → Fp X g H.D x ∨ w.heap.size ≤ x := by
    rintro x ⟨i, hi, hx⟩
    cases i with
    | page v => exact absurd hi (by simp [okp, eget_nil])
    | box => exact .inl ⟨.box, trivial, hx⟩
    | win => exact .inl ⟨.win, trivial, hx⟩
    | tab => exact .inl ⟨.tab, trivial, hx⟩
    | small => have : x = D := hx; have := e.mf; exact .inr (by omega)
    | slot c => exact .inr (e.shf c hi x hx).1
    | line c => exact .inr (e.lnf c hi x hx).1
  refine ⟨{ h := a, ar := j.ar.keep kk (fun x hx q => j.ha x (q ▸ hb) hx), co := j.co.keep kk (fun x hx q => j.hc x (q ▸ hb) hx), T := j.T.keep kk (fun q => j.off _ (.inl (q ▸ hb)) rfl), ha := fun x hx hy => ?_, hc := fun x hx hy => ?_, ac := j.ac, off := fun x hx => ?_, bl := j.bl, pg := j.pg }, rfl, rfl, kk.mono (fun x _ hx => .inl (hx ▸ hb)), fr, fun x hx => .inl hx⟩
  · rcases fr x hx with q | q
    · exact j.ha x q hy
    · have := j.ar.lt hy; omega
  · rcases fr x hx with q | q
    · exact j.hc x q hy
    · have := j.co.lt hy; omega
  · rcases hx with q | q | q
    · rcases fr x q with z | z
      · exact j.off x (.inl z)
      · have := j.T.lt; omega
    · exact j.off x (.inr (.inl q))
    · exact j.off x (.inr (.inr q))
def DrpR (w : World) (X : HX) (g : Int → Pla) (p : Ar.Pl) (v : Value) (cp : Co.Pla) (t t' : T3) (e : Ending) (w' : World) : Prop := e = .returned (.tuple #[]) ∧ ∃ X' v', HG w X g p v cp t.H.D t.M.C X' g v' t'.H t'.S t'.M w'
set_option maxRecDepth 100000 in
set_option maxHeartbeats 1000000 in
theorem drop_any (w : World) (X : HX) (g : Int → Pla) (p : Ar.Pl) (v : Value) (cp : Co.Pla) (t : T3) (j : HJ w X g p v cp t.H t.S t.M) (hT : t.S.T.length + 6400 ≤ 1000000000) :
    Calls Tryz.prog 35 #[.pointer (some ⟨X.hb, 0, none⟩)] w (DrpR w X g p v cp t (dropT t)) := by
  obtain ⟨-, -, -, c3, -⟩ := j.h.four
  have hl := inv_len j.h.inv
  have q1 := Tab.all_any w X.tb X.tm X.tn t.H.E t.H.G j.h.tab j.h.inv (by omega)
  obtain ⟨n, hn⟩ : ∃ n, t.H.E.length = n := ⟨_, rfl⟩
  have hsk := Tab.sortedKeys_len t.H.E
  rw [hn] at q1 hl hsk
  obtain ⟨L, hL⟩ : ∃ L, Tab.sortedKeys t.H.E = L := ⟨_, rfl⟩
  rw [hL] at q1 hsk
  have HD := Hid.of (show dropT t = { letL t L with H := { (letL t L).H with F := emptyF, L := fun _ => [], D := [] } } by rw [← hL]; rfl)
  generalize dropT t = Rz at HD ⊢
  have HJ0 := Hid.of (And.intro j (And.intro hT (And.intro hl hsk)))
  clear j hT hn hL hl hsk
  go_enter Tryz.func35, Tryz.ntmps35
  go_wp2_with fail
  refine q1.mono ?_
  rintro e w1 ⟨vs, rfl, o1, f1, k1⟩
  obtain ⟨A, cap, rfl, -, hA, hr⟩ := o1.rd
  have H1 := Hid.of (And.intro k1 (And.intro hr (fun ad (h : A = some ad) => f1 _ (hA ad h))))
  clear q1 o1 f1 hA k1 hr c3
  go_wp2_with fail
  go_loopw [12] (fun i wr => ∃ (k : Nat) (v' : Value), k ≤ n ∧ i = .int .i64 k ∧ Hid (HG w1 X g p v cp t.H.D t.M.C X g v' (letL t (L.take k)).H (letL t (L.take k)).S (letL t (L.take k)).M wr)) (fun i _ => n - (intOf i).toNat)
  case atStart => exact ⟨0, v, by omega, rfl, Hid.of (HG.refl (HJ0.out.1.old H1.out.1) (Keeps.refl _ _))⟩
  case round =>
    obtain ⟨k, v', hk, rfl, HI⟩ := hrel
    by_cases hlt : k < n
    · have hkd : decide ((k : Int) < (n : Int)) = true := by simp; omega
      have hkL : k < L.length := by rw [HJ0.out.2.2.2]; exact hlt
      have hrw : Rd wr A (ints L) := H1.out.2.1.keep HI.out.keeps (fun ad ha _ hx => by
        have h1 := H1.out.2.2 ad ha
        have h2 := HJ0.out.1.lt hx
        omega)
      obtain ⟨b0, o0, s0, rfl, hc0⟩ := rd_int hrw k hkL
      have hsn := take_snocI L k hkL
      have hT : (letL t (L.take k)).S.T.length ≤ 1000000000 := by
        have h1 := letL_T (L.take k) t
        have h2 := HJ0.out.2.1
        have h3 := HJ0.out.2.2.1
        rw [List.length_take] at h1; omega
      have q := let_any wr X g p v' cp (letL t (L.take k)).H (letL t (L.take k)).S (letL t (L.take k)).M (L.getD k 0) HI.out.j hT
      unfold LetR at q
      have HS := Hid.of (show letL t (L.take (k + 1)) = let3 (letL t (L.take k)) (L.getD k 0) by rw [hsn, letL_snoc])
      generalize L.getD k 0 = y at hc0 q HS
      have hk6 : k < 6400 := by have := HJ0.out.2.2.1; omega
      clear hrw hkL hsn hT
      go_wp2_with fail
      refine q.mono ?_
      rintro e w3 ⟨rfl, v3, g3⟩
      have HF := Hid.of (show HG w1 X g p v cp t.H.D t.M.C X g v3 (letL t (L.take (k + 1))).H (letL t (L.take (k + 1))).S (letL t (L.take (k + 1))).M w3 from by
        rw [HS.out]
        have hC := HI.out.c
        have hDD := (letL_same (L.take k) t).1
        rw [hC] at g3
        exact HI.out.trans g3)
      clear q g3
      go_wp2
      go_roundw
      case rel => exact ⟨k + 1, v3, by omega, by go_num, HF⟩
      case measure => simp [intOf]; omega
    · obtain rfl : k = n := by omega
      have hkd : decide ((k : Int) < (k : Int)) = false := by simp
      have hcells := HI.out.j.h.cells
      have q := empty_any wr X.hb (ptr p.a) (ptr cp.m) X.u (ptr X.tb) (fun c => ptr (X.sb c)) (fun c => ptr (X.lb c)) (.map (some X.db)) hcells
      unfold EmptyR at q
      have HC := Hid.of hcells
      clear hlt hk hcells
      go_wp2_with fail
      refine q.mono ?_
      rintro e w3 ⟨rfl, D, sb, sv, lb, lm, hE⟩
      have HF := Hid.of (show ∃ X' v', HG w X g p v cp t.H.D t.M.C X' g v' Rz.H Rz.S Rz.M w3 from by
        have g3 := HJ.reset HI.out.j hE
        rw [HI.out.c] at g3
        have hfull : L.take k = L := List.take_of_length_le (by rw [HJ0.out.2.2.2]; exact Nat.le_refl _)
        have g4 := (HG.refl HJ0.out.1 H1.out.1).trans (HI.out.trans g3)
        rw [hfull] at g4
        rw [HD.out]
        exact ⟨_, _, g4⟩)
      clear q hE
      go_wp2
      go_end0
      exact ⟨rfl, HF.out⟩
end Hin
end Go.Proofs.YtnheibcjcgacpaaGreatDoor
