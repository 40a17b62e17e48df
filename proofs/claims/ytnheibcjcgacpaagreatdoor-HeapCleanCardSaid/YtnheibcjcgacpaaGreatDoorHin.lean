/- What always holds of a heap's table, its map and the arena's bytes; pages come and go: plain. -/
import Derived.Test.YtnheibcjcgacpaaGreatDoorPgi
set_option linter.unusedVariables false
set_option linter.unusedSimpArgs false
namespace Go.Proofs.YtnheibcjcgacpaaGreatDoor
open Go.RowKit Go.ChangeMaps
namespace Hin
open Pgi He
/-- Is a page free? -/
def fr (M : Co.CM) (x : Nat) : Bool := (M.F (x % M.C)).getD (x / M.C) false
structure MI (M : Co.CM) : Prop where
  len : ∀ i, i < M.C → (M.F i).length = M.P / M.C
  c : 1 ≤ M.C ∧ M.C ≤ 32
  p : 1 ≤ M.P ∧ M.P ≤ 4096
  pc : M.P = M.P / M.C * M.C
theorem page_eq {C x y : Nat} (h1 : x % C = y % C) (h2 : x / C = y / C) : x = y := by
  rw [← Nat.div_add_mod x C, ← Nat.div_add_mod y C, h1, h2]
def upM (M : Co.CM) (x : Nat) (b : Bool) : Co.CM := { M with F := Co.up M.F (x % M.C) ((M.F (x % M.C)).set (x / M.C) b) }
theorem MI.up {M : Co.CM} (h : MI M) {x : Nat} (hx : x < M.P) (b : Bool) : MI (upM M x b) ∧ ∀ y, fr (upM M x b) y = if y = x then b else fr M y := by
  obtain ⟨p1, p2⟩ := Co.pg M h.c.1 h.pc hx
  refine ⟨⟨fun i hi => ?_, h.c, h.p, h.pc⟩, fun y => ?_⟩
  · show (Co.up M.F (x % M.C) _ i).length = M.P / M.C
    by_cases e : i = x % M.C
    · rw [e, Co.up_same, List.length_set]; exact h.len _ p1
    · rw [Co.up_other _ _ e]; exact h.len i hi
  · show (Co.up M.F (x % M.C) _ (y % M.C)).getD (y / M.C) false = _
    by_cases e : y % M.C = x % M.C
    · rw [e, Co.up_same, Sh.getD_set _ _ _ _ (by rw [h.len _ p1]; exact p2)]
      by_cases e2 : y / M.C = x / M.C
      · rw [if_pos e2, if_pos (page_eq e e2)]
      · rw [if_neg e2, if_neg (fun q => e2 (by rw [q]))]
        unfold fr
        rw [e]
    · rw [Co.up_other _ _ e, if_neg (fun q => e (by rw [q]))]
      rfl
def inW (M : Co.CM) (W : List Int) (x : Nat) : Prop := ((x % M.C : Nat) : Int) ∈ W
theorem nf_down {M : Co.CM} (h : MI M) {x : Nat} (hx : x < M.P) (hf : fr M x = true) (W : List Int) (hw : inW M W x) : Co.nf (upM M x false) W + 1 = Co.nf M W := by
  obtain ⟨p1, p2⟩ := Co.pg M h.c.1 h.pc hx
  unfold Co.nf
  symm
  refine Co.sum_upd M.C _ _ (x % M.C) p1 (fun i hi hne => ?_) 1 ?_
  · show (if _ then (Sh.frees (M.F i)).length else 0) = if _ then (Sh.frees (Co.up M.F (x % M.C) _ i)).length else 0
    rw [Co.up_other _ _ hne]
  · show (if _ then (Sh.frees (M.F (x % M.C))).length else 0) = (if _ then (Sh.frees (Co.up M.F (x % M.C) _ (x % M.C))).length else 0) + 1
    have hw : ((x % M.C : Nat) : Int) ∈ W := hw
    rw [Co.up_same, if_pos hw, if_pos hw]
    exact (Sh.frees_len_false (by rw [h.len _ p1]; exact p2) hf).symm
theorem nf_up {M : Co.CM} (h : MI M) {x : Nat} (hx : x < M.P) (hf : fr M x = false) (W : List Int) (hw : inW M W x) : Co.nf (upM M x true) W = Co.nf M W + 1 := by
  obtain ⟨p1, p2⟩ := Co.pg M h.c.1 h.pc hx
  unfold Co.nf
  refine Co.sum_upd M.C _ _ (x % M.C) p1 (fun i hi hne => ?_) 1 ?_
  · show (if _ then (Sh.frees (Co.up M.F (x % M.C) _ i)).length else 0) = if _ then (Sh.frees (M.F i)).length else 0
    rw [Co.up_other _ _ hne]
  · show (if _ then (Sh.frees (Co.up M.F (x % M.C) _ (x % M.C))).length else 0) = (if _ then (Sh.frees (M.F (x % M.C))).length else 0) + 1
    have hw : ((x % M.C : Nat) : Int) ∈ W := hw
    rw [Co.up_same, if_pos hw, if_pos hw]
    exact Sh.frees_len_true (by rw [h.len _ p1]; exact p2) hf
theorem nf_out {M : Co.CM} (h : MI M) {x : Nat} (hx : x < M.P) (b : Bool) (W : List Int) (hw : ¬ inW M W x) : Co.nf (upM M x b) W = Co.nf M W := by
  unfold Co.nf
  congr 1
  refine List.map_congr_left (fun i hi => ?_)
  by_cases e : i = x % M.C
  · subst e
    have hw : ¬ ((x % M.C : Nat) : Int) ∈ W := hw
    rw [if_neg hw, if_neg hw]
  · show (if _ then (Sh.frees (Co.up M.F (x % M.C) _ i)).length else 0) = _
    rw [Co.up_other _ _ e]
theorem stepB_neg {M : Co.CM} {b c : Int} (h : Co.stepB M b c < 0) : b < 0 ∧ (0 ≤ c → c < M.C → Sh.frees (M.F c.toNat) = []) := by
  unfold Co.stepB at h
  split at h
  · rename_i hc
    cases hf : Sh.frees (M.F c.toNat) with
    | nil => rw [hf] at h; exact ⟨h, fun _ _ => rfl⟩
    | cons k r =>
      rw [hf] at h
      dsimp only at h
      have hm : (0 : Int) ≤ (k : Int) * M.C := Int.mul_nonneg (by omega) (by omega)
      split at h <;> omega
  · rename_i hc; exact ⟨h, fun h1 h2 => absurd ⟨h1, h2⟩ hc⟩
theorem fold_neg {M : Co.CM} : ∀ (W : List Int) (b : Int), W.foldl (Co.stepB M) b < 0 → b < 0 ∧ ∀ c ∈ W, 0 ≤ c → c < M.C → Sh.frees (M.F c.toNat) = []
  | [], b, h => ⟨h, fun c hc => by simp at hc⟩
  | c :: W, b, h => by
    obtain ⟨h1, h2⟩ := fold_neg W (Co.stepB M b c) h
    obtain ⟨h3, h4⟩ := stepB_neg h1
    refine ⟨h3, fun d hd => ?_⟩
    rcases List.mem_cons.1 hd with e | e
    · rw [e]; exact h4
    · exact h2 d e
theorem sum_zero (f : Nat → Nat) : ∀ n, (∀ i, i < n → f i = 0) → ((List.range n).map f).sum = 0
  | 0, _ => rfl
  | n + 1, h => by
    rw [List.range_succ, List.map_append, List.sum_append, sum_zero f n (fun i hi => h i (by omega))]
    simp [h n (by omega)]
theorem best_pos {M : Co.CM} {W : List Int} (h : 0 < Co.nf M W) : 0 ≤ Co.best M W := by
  refine Int.not_lt.1 (fun hb => ?_)
  have h1 := (fold_neg W (-1) hb).2
  have h0 : Co.nf M W = 0 := by
    unfold Co.nf
    refine sum_zero _ _ (fun i hi => ?_)
    split
    · rename_i hm
      have := h1 _ hm (by omega) (by omega)
      rw [Int.toNat_natCast] at this
      rw [this]; rfl
    · rfl
  omega
/-- The lowest page of a window is taken. -/
theorem take_ok {M : Co.CM} (h : MI M) {W : List Int} (hn : 0 < Co.nf M W) : ∃ x : Nat, Co.takeE M W = ((x : Int), 0) ∧ x < M.P ∧ fr M x = true ∧ inW M W x ∧ Co.take M W = upM M x false := by
  have hb := best_pos hn
  obtain ⟨x, hx⟩ : ∃ x : Nat, Co.best M W = (x : Int) := ⟨(Co.best M W).toNat, by omega⟩
  have hl := Co.lo_best M W
  rw [hx] at hl
  obtain ⟨a1, a2, a3, a4⟩ := Co.lo_at hl h.len
  have hr := Co.lo_range hl h.len h.pc
  refine ⟨x, ?_, by omega, a3, a4, ?_⟩
  · unfold Co.takeE; rw [hx, if_neg (by omega)]
  · unfold Co.take; rw [hx, if_neg (by omega)]; rfl
theorem give_ok {M : Co.CM} (h : MI M) {x : Nat} (hx : x < M.P) : Co.give M x = upM M x true := by
  obtain ⟨p1, p2⟩ := Co.pg M h.c.1 h.pc hx
  unfold Co.give Sh.giveS upM
  rw [if_pos ⟨Int.natCast_nonneg _, by rw [h.len _ p1]; exact Int.ofNat_lt.2 p2⟩, Int.toNat_natCast]
/-- Table, map and bytes fit. -/
structure TI (t : T3) : Prop where
  inv : Tab.Inv t.H.E t.H.G
  mi : MI t.M
  tk : ∀ v p, eget t.H.E v = some p → ∃ x : Nat, p = (x : Int) ∧ x < t.M.P ∧ fr t.M x = false
  bl : t.S.B.length = t.M.P * 512
  zf : ∀ x, x < t.M.P → fr t.M x = true → cut t.S.B (x * 512) = List.replicate 512 0
/-- Its pages are of its window. -/
def WI (t : T3) : Prop := ∀ v (x : Nat), eget t.H.E v = some (x : Int) → inW t.M t.H.W x
theorem TI.hol {t : T3} (h : TI t) {x : Nat} (hx : fr t.M x = true) : eget t.H.G (x : Int) = none := by
  cases e : eget t.H.G (x : Int) with
  | none => rfl
  | some v =>
    obtain ⟨y, h1, _, h3⟩ := h.tk v _ (h.inv.ba _ _ e)
    have : x = y := by omega
    rw [← this, hx] at h3; cases h3
theorem take1_ok {t : T3} {k : Int} (h : TI t) (hn : 0 < Co.nf t.M t.H.W) (hk : eget t.H.E k = none) (h1 : 256 ≤ k) (h2 : k < 6400) :
    ∃ x : Nat, x < t.M.P ∧ fr t.M x = true ∧ inW t.M t.H.W x ∧ take1 t k = ⟨{ t.H with E := eset t.H.E k (x : Int), G := eset t.H.G (x : Int) k }, t.S, upM t.M x false⟩ ∧ Co.nf (upM t.M x false) t.H.W + 1 = Co.nf t.M t.H.W ∧ TI (take1 t k) := by
  obtain ⟨x, e1, e2, e3, e4, e5⟩ := take_ok h.mi hn
  have hG := h.hol e3
  have hp := h.mi.p
  have hm : Tab.mapS t.H.E t.H.G k (x : Int) = (eset t.H.E k (x : Int), eset t.H.G (x : Int) k) := by
    have hE : Tab.mapE t.H.E t.H.G k (x : Int) = 0 := by
      unfold Tab.mapE
      rw [Tab.fnd_none hk, Tab.fnd_none hG, if_neg (by omega), if_neg (by omega)]
    unfold Tab.mapS
    rw [if_pos hE]
  have et : take1 t k = ⟨{ t.H with E := eset t.H.E k (x : Int), G := eset t.H.G (x : Int) k }, t.S, upM t.M x false⟩ := by
    unfold take1; rw [e1, hm, e5]
  obtain ⟨m1, m2⟩ := h.mi.up e2 false
  refine ⟨x, e2, e3, e4, et, nf_down h.mi e2 e3 _ e4, ?_⟩
  rw [et]
  refine ⟨h.inv.set hk hG h1 h2 (by omega) (by omega), m1, fun v p hv => ?_, h.bl, fun y hy hf => ?_⟩
  · have hv : eget (eset t.H.E k (x : Int)) v = some p := hv
    rw [eget_eset] at hv
    split at hv
    · injection hv with hv
      exact ⟨x, hv.symm, e2, by rw [m2, if_pos rfl]⟩
    · obtain ⟨y, y1, y2, y3⟩ := h.tk v p hv
      refine ⟨y, y1, y2, ?_⟩
      rw [m2]; split
      · rfl
      · exact y3
  · have hf : fr (upM t.M x false) y = true := hf
    rw [m2] at hf
    split at hf
    · cases hf
    · exact h.zf y hy hf
theorem page_fit2 {x P N : Nat} (hx : x < P) (hN : N = P * 512) : x * 512 + 512 ≤ N := page_fit hx hN
theorem page_apart {x y : Nat} (h : x ≠ y) : x * 512 + 512 ≤ y * 512 ∨ y * 512 + 512 ≤ x * 512 := by omega
theorem TI.inj {t : T3} (h : TI t) {v u p : Int} (h1 : eget t.H.E v = some p) (h2 : eget t.H.E u = some p) : v = u := by
  have a := (h.inv.ab v p h1).1
  have b := (h.inv.ab u p h2).1
  rw [a] at b; injection b
theorem let3_ok {t : T3} {k : Int} {x : Nat} (h : TI t) (hk : eget t.H.E k = some (x : Int)) :
    x < t.M.P ∧ let3 t k = ⟨{ t.H with E := edel t.H.E k, G := edel t.H.G (x : Int) }, ⟨bput t.S.B (x * 512) (List.replicate 512 0), Ar.note t.S.T (x * 512) 512 true⟩, upM t.M x true⟩ ∧ (inW t.M t.H.W x → Co.nf (upM t.M x true) t.H.W = Co.nf t.M t.H.W + 1) ∧ TI (let3 t k) := by
  obtain ⟨y, e1, e2, e3⟩ := h.tk k _ hk
  obtain rfl : x = y := by omega
  have hfd := Tab.fnd_some hk
  have et : let3 t k = ⟨{ t.H with E := edel t.H.E k, G := edel t.H.G (x : Int) }, ⟨bput t.S.B (x * 512) (List.replicate 512 0), Ar.note t.S.T (x * 512) 512 true⟩, upM t.M x true⟩ := by
    unfold let3 letH letS letM Tab.unS
    rw [hfd, if_neg (by omega), if_neg (by omega), if_neg (by omega), Int.toNat_natCast, give_ok h.mi e2]
  obtain ⟨m1, m2⟩ := h.mi.up e2 true
  have hfit := page_fit e2 h.bl
  have hbl : (bput t.S.B (x * 512) (List.replicate 512 0)).length = t.S.B.length := lenz hfit
  refine ⟨e2, et, fun e4 => nf_up h.mi e2 e3 _ e4, ?_⟩
  rw [et]
  refine ⟨h.inv.del hk, m1, fun v p hv => ?_, by rw [hbl]; exact h.bl, fun y hy hf => ?_⟩
  · have hv : eget (edel t.H.E k) v = some p := hv
    rw [eget_edel] at hv
    split at hv
    · cases hv
    · rename_i hne
      obtain ⟨y, y1, y2, y3⟩ := h.tk v p hv
      refine ⟨y, y1, y2, ?_⟩
      rw [m2, if_neg (fun q => hne (h.inj hv (by rw [hk, y1, q]))), y3]
  · have hf : fr (upM t.M x true) y = true := hf
    rw [m2] at hf
    by_cases e : y = x
    · rw [e]; exact cutz_all (n := 512) hfit rfl
    · rw [if_neg e] at hf
      show cut (bput _ _ _) _ = _
      rw [cutz_out (n := 512) (b := y * 512) hfit (page_apart (Ne.symm e))]
      exact h.zf y hy hf
/-- Pages for local pages. -/
structure Took (t t' : T3) (b n : Nat) (xs : Nat → Nat) : Prop where
  ti : TI t'
  D : t'.H.D = t.H.D ∧ t'.H.F = t.H.F ∧ t'.H.L = t.H.L ∧ t'.H.W = t.H.W
  S : t'.S = t.S
  CP : t'.M.C = t.M.C ∧ t'.M.P = t.M.P
  nf : Co.nf t'.M t.H.W + n = Co.nf t.M t.H.W
  x : ∀ i, i < n → xs i < t.M.P ∧ fr t.M (xs i) = true ∧ inW t.M t.H.W (xs i) ∧ eget t'.H.E ((b + i : Nat) : Int) = some ((xs i : Nat) : Int)
  o : ∀ v : Int, (∀ i, i < n → v ≠ ((b + i : Nat) : Int)) → eget t'.H.E v = eget t.H.E v
  f : ∀ y, fr t'.M y = true ↔ fr t.M y = true ∧ ∀ i, i < n → xs i ≠ y
  len : t'.H.E.length = t.H.E.length + n
theorem length_eset {α : Type} {E : List (Int × α)} {k : Int} {p : α} (h : eget E k = none) : (eset E k p).length = E.length + 1 := by
  unfold eset
  have : (E.find? (fun p => p.1 == k)).isSome = false := by rw [← eget_isSome, h]; rfl
  rw [this]
  simp
theorem filter_one {E : Tab.Prs} {k : Int} (h : (keysOf E).Nodup) (hk : (eget E k).isSome = true) : (edel E k).length + 1 = E.length := by
  unfold edel
  induction E with
  | nil => simp [eget_nil] at hk
  | cons p E ih =>
    have hn : p.1 ∉ keysOf E ∧ (keysOf E).Nodup := by unfold keysOf at h; rw [List.map_cons, List.nodup_cons] at h; exact h
    rw [eget_cons] at hk
    by_cases e : p.1 = k
    · have h2 : E.filter (fun q => !(q.1 == k)) = E := by
        refine List.filter_eq_self.2 (fun q hq => ?_)
        have : q.1 ≠ k := fun e2 => hn.1 (by rw [e, ← e2]; exact List.mem_map.2 ⟨q, hq, rfl⟩)
        simp [this]
      rw [List.filter_cons, if_neg (by simp [e]), h2]; rfl
    · rw [if_neg e] at hk
      rw [List.filter_cons, if_pos (by simp [e]), List.length_cons, List.length_cons, ih hn.2 hk]
theorem takeN_ok {t : T3} {b : Nat} (h : TI t) (h1 : 256 ≤ b) : ∀ n, n ≤ Co.nf t.M t.H.W → (∀ i, i < n → eget t.H.E ((b + i : Nat) : Int) = none) → b + n ≤ 6400 → ∃ xs : Nat → Nat, Took t (takeN t b n) b n xs
  | 0, _, _, _ => ⟨fun _ => 0, ⟨h, ⟨rfl, rfl, rfl, rfl⟩, rfl, ⟨rfl, rfl⟩, rfl, fun i hi => by omega, fun v _ => rfl, fun y => ⟨fun q => ⟨q, fun i hi => by omega⟩, fun q => q.1⟩, rfl⟩⟩
  | n + 1, h2, h3, h4 => by
    obtain ⟨xs, k⟩ := takeN_ok h h1 n (by omega) (fun i hi => h3 i (by omega)) (by omega)
    have hW := k.D.2.2.2
    have hno : ∀ v : Int, v = ((b + n : Nat) : Int) → ∀ i, i < n → v ≠ ((b + i : Nat) : Int) := fun v hv i hi => by omega
    obtain ⟨x, a1, a2, a3, a4, a5, a6⟩ := take1_ok k.ti (k := ((b + n : Nat) : Int)) (by rw [hW]; have := k.nf; omega) (by rw [k.o _ (hno _ rfl)]; exact h3 n (by omega)) (by omega) (by omega)
    rw [hW] at a3 a5
    have hx2 : inW t.M t.H.W x := by unfold inW at a3 ⊢; rw [k.CP.1] at a3; exact a3
    obtain ⟨m1, m2⟩ := k.ti.mi.up a1 false
    obtain ⟨ys, y1, y2⟩ : ∃ ys : Nat → Nat, ys n = x ∧ ∀ i, i ≠ n → ys i = xs i := ⟨fun i => if i = n then x else xs i, if_pos rfl, fun i hi => if_neg hi⟩
    refine ⟨ys, ?_⟩
    show Took t (take1 (takeN t b n) ((b + n : Nat) : Int)) b (n + 1) ys
    refine ⟨a6, ?_, ?_, ?_, ?_, fun i hi => ?_, fun v hv => ?_, fun y => ?_, ?_⟩
    · rw [a4]; exact k.D
    · rw [a4]; exact k.S
    · rw [a4]; exact k.CP
    · rw [a4]; show Co.nf (upM (takeN t b n).M x false) t.H.W + (n + 1) = _; have := k.nf; omega
    · rw [a4]
      show _ ∧ _ ∧ _ ∧ eget (eset (takeN t b n).H.E ((b + n : Nat) : Int) (x : Int)) ((b + i : Nat) : Int) = some _
      by_cases e : i = n
      · subst e
        rw [eget_eset, if_pos rfl, y1]
        exact ⟨by rw [← k.CP.2]; exact a1, ((k.f x).1 a2).1, hx2, rfl⟩
      · rw [eget_eset, if_neg (by omega), y2 i e]
        exact k.x i (by omega)
    · rw [a4]
      show eget (eset (takeN t b n).H.E ((b + n : Nat) : Int) (x : Int)) v = _
      rw [eget_eset, if_neg (hv n (by omega))]
      exact k.o v (fun i hi => hv i (by omega))
    · rw [a4]
      show fr (upM (takeN t b n).M x false) y = true ↔ _
      rw [m2]
      constructor
      · intro q
        split at q
        · cases q
        · rename_i hne
          refine ⟨((k.f y).1 q).1, fun i hi => ?_⟩
          by_cases e : i = n
          · rw [e, y1]; exact fun w => hne w.symm
          · rw [y2 i e]; exact ((k.f y).1 q).2 i (by omega)
      · rintro ⟨q1, q2⟩
        have hne := q2 n (by omega)
        rw [y1] at hne
        rw [if_neg (fun w => hne w.symm)]
        refine (k.f y).2 ⟨q1, fun i hi => ?_⟩
        have := q2 i (by omega)
        rwa [y2 i (by omega)] at this
    · rw [a4]
      show (eset (takeN t b n).H.E ((b + n : Nat) : Int) (x : Int)).length = _
      rw [length_eset (by rw [k.o _ (hno _ rfl)]; exact h3 n (by omega)), k.len]; omega
/-- Local pages are let go of. -/
structure Lets (t t' : T3) (b n : Nat) : Prop where
  ti : TI t'
  D : t'.H.D = t.H.D ∧ t'.H.F = t.H.F ∧ t'.H.L = t.H.L ∧ t'.H.W = t.H.W
  CP : t'.M.C = t.M.C ∧ t'.M.P = t.M.P
  bl : t'.S.B.length = t.S.B.length
  nf : WI t → Co.nf t'.M t.H.W = Co.nf t.M t.H.W + n
  g : ∀ i, i < n → eget t'.H.E ((b + i : Nat) : Int) = none
  o : ∀ v : Int, (∀ i, i < n → v ≠ ((b + i : Nat) : Int)) → eget t'.H.E v = eget t.H.E v
  f : ∀ y : Nat, fr t'.M y = true ↔ fr t.M y = true ∨ ∃ i, i < n ∧ eget t.H.E ((b + i : Nat) : Int) = some (y : Int)
  c : ∀ y : Nat, (∀ i, i < n → eget t.H.E ((b + i : Nat) : Int) ≠ some (y : Int)) → cut t'.S.B (y * 512) = cut t.S.B (y * 512)
  len : t'.H.E.length + n = t.H.E.length
theorem letN_ok {t : T3} {b : Nat} (h : TI t) : ∀ n, (∀ i, i < n → (eget t.H.E ((b + i : Nat) : Int)).isSome = true) → Lets t (letN t b n) b n
  | 0, _ => ⟨h, ⟨rfl, rfl, rfl, rfl⟩, ⟨rfl, rfl⟩, rfl, fun _ => rfl, fun i hi => by omega, fun v _ => rfl, fun y => ⟨fun q => .inl q, fun q => q.elim (fun x => x) (fun ⟨i, hi, _⟩ => by omega)⟩, fun y _ => rfl, rfl⟩
  | n + 1, h3 => by
    have k := letN_ok h n (fun i hi => h3 i (by omega))
    have hW := k.D.2.2.2
    have hno : ∀ v : Int, v = ((b + n : Nat) : Int) → ∀ i, i < n → v ≠ ((b + i : Nat) : Int) := fun v hv i hi => by omega
    have hE := k.o _ (hno _ rfl)
    obtain ⟨p, hp⟩ := Option.isSome_iff_exists.1 (h3 n (by omega))
    obtain ⟨x, rfl, hxP, -⟩ := h.tk _ p hp
    rw [hp] at hE
    obtain ⟨a1, a4, a5, a6⟩ := let3_ok k.ti hE
    rw [hW] at a5
    obtain ⟨m1, m2⟩ := k.ti.mi.up a1 true
    have hfit := page_fit a1 k.ti.bl
    show Lets t (let3 (letN t b n) ((b + n : Nat) : Int)) b (n + 1)
    refine ⟨a6, ?_, ?_, ?_, ?_, fun i hi => ?_, fun v hv => ?_, fun y => ?_, fun y hy => ?_, ?_⟩
    · rw [a4]; exact k.D
    · rw [a4]; exact k.CP
    · rw [a4]; show (bput _ _ _).length = _; rw [lenz hfit]; exact k.bl
    · intro hw
      rw [a4]
      show Co.nf (upM (letN t b n).M x true) t.H.W = _
      have h5 := a5 (by have := hw _ x hp; unfold inW at this ⊢; rw [k.CP.1]; exact this)
      have := k.nf hw
      omega
    · rw [a4]
      show eget (edel (letN t b n).H.E ((b + n : Nat) : Int)) ((b + i : Nat) : Int) = none
      rw [eget_edel]
      split
      · rfl
      · exact k.g i (by omega)
    · rw [a4]
      show eget (edel (letN t b n).H.E ((b + n : Nat) : Int)) v = _
      rw [eget_edel, if_neg (hv n (by omega))]
      exact k.o v (fun i hi => hv i (by omega))
    · rw [a4]
      show fr (upM (letN t b n).M x true) y = true ↔ _
      rw [m2]
      constructor
      · intro q
        split at q
        · rename_i e; exact .inr ⟨n, by omega, by rw [hp, e]⟩
        · rcases (k.f y).1 q with e | ⟨i, hi, e⟩
          · exact .inl e
          · exact .inr ⟨i, by omega, e⟩
      · intro q
        split
        · rfl
        · rename_i hne
          refine (k.f y).2 ?_
          rcases q with e | ⟨i, hi, e⟩
          · exact .inl e
          · by_cases e2 : i = n
            · subst e2
              rw [hp] at e; injection e with e
              exact absurd (by omega) hne
            · exact .inr ⟨i, by omega, e⟩
    · rw [a4]
      show cut (bput _ _ _) _ = _
      have hne : y ≠ x := fun e => hy n (by omega) (by rw [hp, e])
      rw [cutz_out (n := 512) (b := y * 512) hfit (page_apart (Ne.symm hne))]
      exact k.c y (fun i hi => hy i (by omega))
    · rw [a4]
      show (edel (letN t b n).H.E ((b + n : Nat) : Int)).length + (n + 1) = _
      have := filter_one (k := ((b + n : Nat) : Int)) k.ti.inv.ke (by rw [hE]; rfl)
      have := k.len
      omega
end Hin
end Go.Proofs.YtnheibcjcgacpaaGreatDoor
