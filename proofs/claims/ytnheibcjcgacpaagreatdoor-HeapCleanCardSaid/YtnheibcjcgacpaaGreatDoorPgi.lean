/- A page's 512 bytes and what always holds of them: plain. -/
import Derived.Test.YtnheibcjcgacpaaGreatDoorHei
set_option linter.unusedVariables false
set_option linter.unusedSimpArgs false
namespace Go.Proofs.YtnheibcjcgacpaaGreatDoor
open Go.RowKit Go.ChangeMaps
namespace Pgi
open Ar Pg
/-- A page's bytes. -/
def cut (B : Bs) (b : Nat) : Bs := (B.drop b).take 512
theorem cut_get (B : Bs) (b i : Nat) : (cut B b)[i]? = if i < 512 then B[b + i]? else none := by
  unfold cut
  rw [List.getElem?_take]
  split
  · rw [List.getElem?_drop]
  · rfl
theorem cut_len {B : Bs} {b : Nat} (h : b + 512 ≤ B.length) : (cut B b).length = 512 := by unfold cut; rw [List.length_take, List.length_drop]; omega
theorem cut_in {B d : Bs} {b o : Nat} (h : b + 512 ≤ B.length) (ho : o + d.length ≤ 512) : cut (bput B (b + o) d) b = bput (cut B b) o d := by
  refine List.ext_getElem? fun i => ?_
  rw [cut_get, bput_get _ _ _ _ (by omega), bput_get _ _ _ _ (by rw [cut_len h]; exact ho), cut_get]
  by_cases hi : i < 512
  · rw [if_pos hi, if_pos hi]
    by_cases h1 : i < o
    · rw [if_pos (by omega), if_pos h1]
    · rw [if_neg (by omega), if_neg h1]
      by_cases h2 : i < o + d.length
      · rw [if_pos (by omega), if_pos h2]; congr 1; omega
      · rw [if_neg (by omega), if_neg h2]
  · rw [if_neg hi, if_neg hi, if_neg (by omega), if_neg (by omega)]
theorem cut_out {B d : Bs} {b a : Nat} (hd : a + d.length ≤ B.length) (h : a + d.length ≤ b ∨ b + 512 ≤ a) : cut (bput B a d) b = cut B b := by
  refine List.ext_getElem? fun i => ?_
  rw [cut_get, cut_get]
  by_cases hi : i < 512
  · rw [if_pos hi, if_pos hi, bput_get _ _ _ _ hd]
    by_cases h1 : b + i < a
    · rw [if_pos h1]
    · rw [if_neg h1, if_neg (by omega)]
  · rw [if_neg hi, if_neg hi]
theorem cut_all {B d : Bs} {b : Nat} (h : b + 512 ≤ B.length) (hd : d.length = 512) : cut (bput B b d) b = d := by
  refine List.ext_getElem? fun i => ?_
  rw [cut_get, bput_get _ _ _ _ (by omega)]
  by_cases hi : i < 512
  · rw [if_pos hi, if_neg (by omega), if_pos (by omega)]; congr 1; omega
  · rw [if_neg hi, List.getElem?_eq_none (by omega)]
theorem cutz_out {B : Bs} {n b a : Nat} (hd : a + n ≤ B.length) (h : a + n ≤ b ∨ b + 512 ≤ a) : cut (bput B a (List.replicate n 0)) b = cut B b :=
  cut_out (by rw [List.length_replicate]; exact hd) (by rw [List.length_replicate]; exact h)
theorem lenz {B : Bs} {n a : Nat} (hd : a + n ≤ B.length) : (bput B a (List.replicate n 0)).length = B.length := bput_length _ _ _ (by rw [List.length_replicate]; exact hd)
theorem cutz_all {B : Bs} {n b : Nat} (h : b + 512 ≤ B.length) (hn : n = 512) : cut (bput B b (List.replicate n 0)) b = List.replicate n 0 := cut_all h (by rw [List.length_replicate, hn])
theorem drop_get8 (B : Bs) (a i : Nat) : ((B.drop a).take 8)[i]? = if i < 8 then B[a + i]? else none := by
  rw [List.getElem?_take]
  split
  · rw [List.getElem?_drop]
  · rfl
theorem word_cut {B : Bs} {b l x : Nat} (h : b + 512 ≤ B.length) (hl : l + 8 ≤ 512) : Word (cut B b) l x ↔ Word B (b + l) x := by
  have e : ((cut B b).drop l).take 8 = (B.drop (b + l)).take 8 := by
    refine List.ext_getElem? fun i => ?_
    rw [drop_get8, drop_get8]
    split
    · rw [cut_get, if_pos (by omega)]; congr 1; omega
    · rfl
  unfold Word
  rw [e, cut_len h]
  exact ⟨fun ⟨a, b, c⟩ => ⟨a, b, by omega⟩, fun ⟨a, b, c⟩ => ⟨a, b, hl⟩⟩
theorem word_out {C d : Bs} {l x a : Nat} (hd : a + d.length ≤ C.length) (h : a + d.length ≤ l ∨ l + 8 ≤ a) (hw : Word C l x) : Word (bput C a d) l x := by
  obtain ⟨h1, h2, h3⟩ := hw
  refine ⟨?_, h2, by rw [bput_length _ _ _ hd]; exact h3⟩
  rw [← h1]
  refine List.ext_getElem? fun i => ?_
  rw [drop_get8, drop_get8]
  split
  · rw [bput_get _ _ _ _ hd]
    by_cases h1 : l + i < a
    · rw [if_pos h1]
    · rw [if_neg h1, if_neg (by omega)]
  · rfl
theorem word_sto {C : Bs} {l x : Nat} (h : l + 8 ≤ C.length) (hx : x < 256) : Word (sto C l x) l x := by
  refine ⟨?_, hx, by rw [sto_len h]; exact h⟩
  unfold sto
  refine List.ext_getElem? fun i => ?_
  rw [drop_get8, bput_get _ _ _ _ (by rw [lw_len]; exact h), lw_len]
  split
  · rw [if_neg (by omega), if_pos (by omega)]; congr 1; omega
  · rw [List.getElem?_eq_none (by rw [lw_len]; omega)]
/-- Blocks of one page are apart. -/
theorem blk_apart {k j u : Nat} (h : k ≠ j) : k * u + u ≤ j * u ∨ j * u + u ≤ k * u := by
  rcases Nat.lt_or_gt_of_ne h with e | e
  · left
    have := Nat.mul_le_mul_right u (show k + 1 ≤ j from e)
    rw [Nat.add_mul, Nat.one_mul] at this; exact this
  · right
    have := Nat.mul_le_mul_right u (show j + 1 ≤ k from e)
    rw [Nat.add_mul, Nat.one_mul] at this; exact this
theorem blk_fit {c k : Nat} (hc : c < 8) (h : k < Pc.per c) : k * Pc.un c + Pc.un c ≤ 512 := by
  have h1 := per_un hc
  have h2 := Nat.mul_le_mul_right (Pc.un c) (show k + 1 ≤ Pc.per c from h)
  rw [Nat.add_mul, Nat.one_mul] at h2
  omega
theorem un_ge {c : Nat} (hc : c < 8) : 16 ≤ Pc.un c ∧ Pc.un c ≤ 256 := by
  rcases Cl.eight_cases hc with rfl | rfl | rfl | rfl | rfl | rfl | rfl | rfl <;> decide
theorem links_cut {B : Bs} {b c : Nat} (hc : c < 8) (h : b + 512 ≤ B.length) : ∀ L, Links (cut B b) 0 (Pc.un c) (Pc.per c) L ↔ Links B b (Pc.un c) (Pc.per c) L
  | [] => Iff.rfl
  | k :: L => by
    have ih := links_cut hc h L
    have hu := un_ge hc
    constructor
    · rintro ⟨h1, h2, h3⟩
      have hf := blk_fit hc h1
      rw [Nat.zero_add] at h2
      exact ⟨h1, (word_cut h (by omega)).1 h2, ih.1 h3⟩
    · rintro ⟨h1, h2, h3⟩
      have hf := blk_fit hc h1
      refine ⟨h1, ?_, ih.2 h3⟩
      rw [Nat.zero_add]
      exact (word_cut h (by omega)).2 h2
/-- Links stand where another block is turned. -/
theorem links_out {C d : Bs} {c k : Nat} (hc : c < 8) (hC : C.length = 512) (hk : k < Pc.per c) (hd : d.length ≤ Pc.un c) : ∀ L, k ∉ L → Links C 0 (Pc.un c) (Pc.per c) L → Links (bput C (k * Pc.un c) d) 0 (Pc.un c) (Pc.per c) L
  | [], _, _ => trivial
  | j :: L, hn, ⟨h1, h2, h3⟩ => by
    have hne : k ≠ j := fun e => hn (by rw [e]; exact List.mem_cons_self)
    have hf := blk_fit hc hk
    have hu := un_ge hc
    have hj := blk_fit hc h1
    refine ⟨h1, ?_, links_out hc hC hk hd L (fun e => hn (List.mem_cons_of_mem _ e)) h3⟩
    rw [Nat.zero_add] at h2 ⊢
    refine word_out (by omega) ?_ h2
    rcases blk_apart (u := Pc.un c) hne with e | e
    · left; omega
    · right; omega
theorem links_lt {C : Bs} {c : Nat} : ∀ {L : List Nat}, Links C 0 (Pc.un c) (Pc.per c) L → ∀ k ∈ L, k < Pc.per c
  | [], _, k, hk => by simp at hk
  | j :: L, ⟨h1, h2, h3⟩, k, hk => by
    rcases List.mem_cons.1 hk with e | e
    · rw [e]; exact h1
    · exact links_lt h3 k e
/-- What always holds of a page: its bytes, its record. -/
structure PI (C : Bs) (P : PG) : Prop where
  len : C.length = 512
  k8 : P.kind < 8
  sl : P.S.length = Pc.per P.kind
  fr : P.fresh ≤ Pc.per P.kind
  rl : Links C 0 (Pc.un P.kind) (Pc.per P.kind) P.R
  wl : Links C 0 (Pc.un P.kind) (Pc.per P.kind) P.W
  nd : (P.R ++ P.W).Nodup
  fs : ∀ k ∈ P.R ++ P.W, P.S.getD k false = true ∧ k < P.fresh
  sf : ∀ k, k < P.fresh → P.S.getD k false = true → k ∈ P.R ++ P.W
  sn : ∀ k, P.fresh ≤ k → k < Pc.per P.kind → P.S.getD k false = true
  z : ∀ k, k < Pc.per P.kind → P.S.getD k false = true → ∀ i, i < Pc.un P.kind → (k ∈ P.R ++ P.W → 8 ≤ i) → C.getD (k * Pc.un P.kind + i) 0 = 0
theorem getD_rep (n k : Nat) (h : k < n) : (List.replicate n true).getD k false = true := by
  rw [List.getD_eq_getElem?_getD, List.getElem?_replicate, if_pos h]; rfl
theorem PI.new {base c : Nat} (hc : c < 8) : PI (List.replicate 512 0) (newP base c) where
  len := List.length_replicate
  k8 := hc
  sl := List.length_replicate
  fr := Nat.zero_le _
  rl := trivial
  wl := trivial
  nd := List.nodup_nil
  fs := fun k hk => by simp [newP] at hk
  sf := fun k hk => absurd hk (Nat.not_lt_zero _)
  sn := fun k _ hk => getD_rep _ _ hk
  z := fun k _ _ i _ _ => by
    rw [List.getD_eq_getElem?_getD, List.getElem?_replicate]
    split <;> rfl
/-- A page that isn't full can give out a block. -/
theorem PI.free {C : Bs} {P : PG} (h : PI C P) (hf : full P = false) (hR : P.R = []) (hW : P.W = []) : P.fresh < Pc.per P.kind ∧ P.S.getD P.fresh false = true := by
  unfold full at hf
  have hne : Sh.frees P.S ≠ [] := fun e => by rw [e] at hf; simp at hf
  obtain ⟨k, hk⟩ := List.exists_mem_of_ne_nil _ hne
  obtain ⟨h1, h2⟩ := Sh.mem_frees.1 hk
  have hlt : P.fresh < Pc.per P.kind := by
    rcases Nat.lt_or_ge k P.fresh with e | e
    · have := h.sf k e h2
      rw [hR, hW] at this; simp at this
    · rw [h.sl] at h1; omega
  exact ⟨hlt, h.sn _ (Nat.le_refl _) hlt⟩
def alC (C : Bs) (P : PG) : Bs := match P.R, P.W with
  | k :: _, _ => sto C (k * Pc.un P.kind) 0
  | [], k :: _ => sto C (k * Pc.un P.kind) 0
  | [], [] => C
theorem PI.alOk {B : Bs} {P : PG} (h : PI (cut B P.base) P) (hb : P.base + 512 ≤ B.length) (hf : full P = false) : AlOk B P := by
  unfold AlOk
  cases hR : P.R with
  | cons k L =>
    refine ⟨?_, (h.fs k (by rw [hR]; simp)).1⟩
    have := (links_cut h.k8 hb P.R).1 h.rl
    rwa [hR] at this
  | nil =>
    cases hW : P.W with
    | cons k L =>
      refine ⟨?_, (h.fs k (by rw [hW]; simp)).1⟩
      have := (links_cut h.k8 hb P.W).1 h.wl
      rwa [hW] at this
    | nil => exact h.free hf hR hW
theorem cut_al {B : Bs} {T : List Sp} {P : PG} (h : PI (cut B P.base) P) (hb : P.base + 512 ≤ B.length) : cut (alS P ⟨B, T⟩).B P.base = alC (cut B P.base) P := by
  unfold alS alC
  cases hR : P.R with
  | cons k L =>
    have hk := links_lt h.rl k (by rw [hR]; exact List.mem_cons_self)
    have hf := blk_fit h.k8 hk
    have hu := un_ge h.k8
    exact cut_in hb (by rw [lw_len]; omega)
  | nil =>
    cases hW : P.W with
    | cons k L =>
      have hk := links_lt h.wl k (by rw [hW]; exact List.mem_cons_self)
      have hf := blk_fit h.k8 hk
      have hu := un_ge h.k8
      exact cut_in hb (by rw [lw_len]; omega)
    | nil => rfl
theorem getD_bput {C d : Bs} {a x : Nat} (hd : a + d.length ≤ C.length) (h : x < a ∨ a + d.length ≤ x) : (bput C a d).getD x 0 = C.getD x 0 := by
  rw [List.getD_eq_getElem?_getD, List.getD_eq_getElem?_getD, bput_get _ _ _ _ hd]
  by_cases h1 : x < a
  · rw [if_pos h1]
  · rw [if_neg h1, if_neg (by omega)]
theorem getD_zeros {C : Bs} {a n x : Nat} (hd : a + n ≤ C.length) (h1 : a ≤ x) (h2 : x < a + n) : (bput C a (List.replicate n 0)).getD x 0 = 0 := by
  rw [List.getD_eq_getElem?_getD, bput_get _ _ _ _ (by rw [List.length_replicate]; exact hd), List.length_replicate, if_neg (by omega), if_pos h2, List.getElem?_replicate]
  split <;> rfl
theorem getD_sto0 {C : Bs} {a x : Nat} (hd : a + 8 ≤ C.length) (h1 : a ≤ x) (h2 : x < a + 8) : (sto C a 0).getD x 0 = 0 :=
  getD_zeros (n := 8) hd h1 h2
/-- A byte of another block. -/
theorem getD_blk {C d : Bs} {c k j i : Nat} (hc : c < 8) (hC : C.length = 512) (hk : k < Pc.per c) (hd : d.length ≤ Pc.un c) (hj : j ≠ k) (hi : i < Pc.un c) : (bput C (k * Pc.un c) d).getD (j * Pc.un c + i) 0 = C.getD (j * Pc.un c + i) 0 := by
  have hf := blk_fit hc hk
  refine getD_bput (by omega) ?_
  rcases blk_apart (u := Pc.un c) hj with e | e
  · left; omega
  · right; omega
theorem getD_setF {S : List Bool} {k j : Nat} (h : (S.set k false).getD j false = true) : j ≠ k ∧ S.getD j false = true := by
  rw [List.getD_eq_getElem?_getD, List.getElem?_set] at h
  by_cases e : k = j
  · subst e
    rw [if_pos rfl] at h
    split at h <;> simp at h
  · rw [if_neg e] at h
    exact ⟨fun q => e q.symm, by rw [List.getD_eq_getElem?_getD]; exact h⟩
theorem getD_ne {S : List Bool} {k j : Nat} {b : Bool} (h : j ≠ k) : (S.set k b).getD j false = S.getD j false := by
  rw [List.getD_eq_getElem?_getD, List.getElem?_set, if_neg (fun e => h e.symm), ← List.getD_eq_getElem?_getD]
/-- The first of the ready ones is given out. -/
theorem PI.pop {C : Bs} {P : PG} (h : PI C P) {k : Nat} {L : List Nat} (hR : P.R = k :: L) : PI (sto C (k * Pc.un P.kind) 0) (popP P k L) ∧ (∀ i, i < Pc.un P.kind → (sto C (k * Pc.un P.kind) 0).getD (k * Pc.un P.kind + i) 0 = 0) := by
  have hk := links_lt h.rl k (by rw [hR]; exact List.mem_cons_self)
  have hf := blk_fit h.k8 hk
  have hu := un_ge h.k8
  have hnd := h.nd
  rw [hR, List.cons_append, List.nodup_cons] at hnd
  have hkL : k ∉ L := fun e => hnd.1 (List.mem_append_left _ e)
  have hkW : k ∉ P.W := fun e => hnd.1 (List.mem_append_right _ e)
  have hrl := h.rl
  rw [hR] at hrl
  have hfk := h.fs k (by rw [hR]; simp)
  have hmem : ∀ j, j ≠ k → (j ∈ P.R ++ P.W ↔ j ∈ L ++ P.W) := fun j hj => by
    rw [hR]; simp [hj]
  have h8 : (lw 0).length ≤ Pc.un P.kind := by rw [lw_len]; omega
  refine ⟨{ len := by rw [sto_len (by rw [h.len]; omega)]; exact h.len, k8 := h.k8, sl := by show (P.S.set k false).length = _; rw [List.length_set]; exact h.sl, fr := h.fr, rl := links_out h.k8 h.len hk h8 L hkL hrl.2.2, wl := links_out h.k8 h.len hk h8 P.W hkW h.wl, nd := hnd.2, fs := fun j hj => ?_, sf := fun j hj hs => ?_, sn := fun j h1 h2 => ?_, z := fun j h1 hs i hi hm => ?_ }, fun i hi => ?_⟩
  · have hj : j ∈ L ++ P.W := hj
    have hne : j ≠ k := fun e => hnd.1 (e ▸ hj)
    have := h.fs j ((hmem j hne).2 hj)
    exact ⟨by show (P.S.set k false).getD j false = true; rw [getD_ne hne]; exact this.1, this.2⟩
  · obtain ⟨hne, hs⟩ := getD_setF (show (P.S.set k false).getD j false = true from hs)
    exact (hmem j hne).1 (h.sf j hj hs)
  · have h1 : P.fresh ≤ j := h1
    have hne : j ≠ k := fun e => by omega
    show (P.S.set k false).getD j false = true
    rw [getD_ne hne]
    exact h.sn j h1 h2
  · obtain ⟨hne, hs⟩ := getD_setF (show (P.S.set k false).getD j false = true from hs)
    show (sto C _ 0).getD (j * Pc.un P.kind + i) 0 = 0
    unfold sto
    rw [getD_blk h.k8 h.len hk h8 hne hi]
    exact h.z j h1 hs i hi (fun e => hm ((hmem j hne).1 e))
  · by_cases hi8 : i < 8
    · exact getD_sto0 (by rw [h.len]; omega) (by omega) (by omega)
    · unfold sto
      rw [getD_bput (by rw [lw_len, h.len]; omega) (by rw [lw_len]; omega)]
      exact h.z k hk hfk.1 i hi (fun _ => by omega)
theorem PI.turn {C : Bs} {P : PG} (h : PI C P) (hR : P.R = []) : PI C { P with R := P.W, W := [] } where
  len := h.len
  k8 := h.k8
  sl := h.sl
  fr := h.fr
  rl := h.wl
  wl := trivial
  nd := by have := h.nd; rw [hR] at this; simpa using this
  fs := fun k hk => h.fs k (by rw [hR]; simpa using hk)
  sf := fun k hk hs => by have := h.sf k hk hs; rw [hR] at this; simpa using this
  sn := h.sn
  z := fun k hk hs i hi hm => h.z k hk hs i hi (fun e => hm (by rw [hR] at e; simpa using e))
/-- A block is given out. -/
theorem PI.al {C : Bs} {P : PG} (h : PI C P) (hf : full P = false) :
    PI (alC C P) (alP P) ∧ alK P < Pc.per P.kind ∧ P.S.getD (alK P) false = true ∧ (alP P).S = P.S.set (alK P) false ∧ (∀ i, i < Pc.un P.kind → (alC C P).getD (alK P * Pc.un P.kind + i) 0 = 0) ∧
      ∀ j, j ≠ alK P → ∀ i, i < Pc.un P.kind → (alC C P).getD (j * Pc.un P.kind + i) 0 = C.getD (j * Pc.un P.kind + i) 0 := by
  have hu := un_ge h.k8
  have h8 : (lw 0).length ≤ Pc.un P.kind := by rw [lw_len]; omega
  unfold alC alP alK
  cases hR : P.R with
  | cons k L =>
    have hk := links_lt h.rl k (by rw [hR]; exact List.mem_cons_self)
    obtain ⟨p1, p2⟩ := h.pop hR
    exact ⟨p1, hk, (h.fs k (by rw [hR]; simp)).1, rfl, p2, fun j hj i hi => getD_blk h.k8 h.len hk h8 hj hi⟩
  | nil =>
    cases hW : P.W with
    | cons k L =>
      have hk := links_lt h.wl k (by rw [hW]; exact List.mem_cons_self)
      obtain ⟨p1, p2⟩ := (h.turn hR).pop (k := k) (L := L) hW
      rw [hW] at p1
      exact ⟨p1, hk, (h.fs k (by rw [hW]; simp)).1, rfl, p2, fun j hj i hi => getD_blk h.k8 h.len hk h8 hj hi⟩
    | nil =>
      obtain ⟨f1, f2⟩ := h.free hf hR hW
      refine ⟨{ len := h.len, k8 := h.k8, sl := by show (P.S.set _ false).length = _; rw [List.length_set]; exact h.sl, fr := f1, rl := h.rl, wl := h.wl, nd := h.nd, fs := fun k hk => ?_, sf := fun k hk hs => ?_, sn := fun k h1 h2 => ?_, z := fun k h1 hs i hi hm => ?_ }, f1, f2, rfl, fun i hi => ?_, fun j hj i hi => rfl⟩
      · have hk : k ∈ P.R ++ P.W := hk
        rw [hR, hW] at hk; simp at hk
      · have hk : k < P.fresh + 1 := hk
        obtain ⟨hne, hs⟩ := getD_setF (show (P.S.set P.fresh false).getD k false = true from hs)
        exact h.sf k (by omega) hs
      · have h1 : P.fresh + 1 ≤ k := h1
        show (P.S.set P.fresh false).getD k false = true
        rw [getD_ne (by omega)]
        exact h.sn k (by omega) h2
      · obtain ⟨hne, hs⟩ := getD_setF (show (P.S.set P.fresh false).getD k false = true from hs)
        exact h.z k h1 hs i hi hm
      · exact h.z P.fresh f1 f2 i hi (fun e => by rw [hR, hW] at e; simp at e)
def freeC (C : Bs) (P : PG) (k : Nat) : Bs := sto (bput C (k * Pc.un P.kind) (List.replicate (Pc.un P.kind) 0)) (k * Pc.un P.kind) (hd P.W + 1).toNat
theorem hd_lt {C : Bs} {c : Nat} (hc : c < 8) {L : List Nat} (h : Links C 0 (Pc.un c) (Pc.per c) L) : (hd L + 1).toNat < 256 := by
  cases L with
  | nil => decide
  | cons k L =>
    have := (Pc.per_range hc).2
    have := h.1
    show ((k : Int) + 1).toNat < 256
    omega
theorem cut_free {B : Bs} {T : List Sp} {P : PG} {k : Nat} (h8 : P.kind < 8) (hb : P.base + 512 ≤ B.length) (hk : k < Pc.per P.kind) : cut (freeS P ⟨B, T⟩ k).B P.base = freeC (cut B P.base) P k := by
  have hf := blk_fit h8 hk
  have hu := un_ge h8
  unfold freeS freeC lc sto
  show cut (bput (bput B _ _) _ _) _ = _
  rw [cut_in (by rw [bput_length _ _ _ (by rw [List.length_replicate]; omega)]; exact hb) (by rw [lw_len]; omega), cut_in hb (by rw [List.length_replicate]; exact hf)]
/-- A block comes back. -/
theorem PI.fr1 {C : Bs} {P : PG} (h : PI C P) {k : Nat} (hk : k < Pc.per P.kind) (hs : P.S.getD k false = false) :
    PI (freeC C P k) (freeP P k) ∧ ∀ j, j ≠ k → ∀ i, i < Pc.un P.kind → (freeC C P k).getD (j * Pc.un P.kind + i) 0 = C.getD (j * Pc.un P.kind + i) 0 := by
  have hu := un_ge h.k8
  have hf := blk_fit h.k8 hk
  have h8 : ∀ x, (lw x).length ≤ Pc.un P.kind := fun x => by rw [lw_len]; omega
  have hz : (List.replicate (Pc.un P.kind) (0 : UInt8)).length ≤ Pc.un P.kind := by rw [List.length_replicate]; exact Nat.le_refl _
  have hC1 : (bput C (k * Pc.un P.kind) (List.replicate (Pc.un P.kind) 0)).length = 512 := by rw [bput_length _ _ _ (by rw [List.length_replicate, h.len]; exact hf)]; exact h.len
  have hkn : k ∉ P.R ++ P.W := fun e => by rw [(h.fs k e).1] at hs; cases hs
  have hkf : k < P.fresh := by
    rcases Nat.lt_or_ge k P.fresh with e | e
    · exact e
    · rw [h.sn k e hk] at hs; cases hs
  have hkR : k ∉ P.R := fun e => hkn (List.mem_append_left _ e)
  have hkW : k ∉ P.W := fun e => hkn (List.mem_append_right _ e)
  have oth : ∀ j, j ≠ k → ∀ i, i < Pc.un P.kind → (freeC C P k).getD (j * Pc.un P.kind + i) 0 = C.getD (j * Pc.un P.kind + i) 0 := fun j hj i hi => by
    unfold freeC sto
    rw [getD_blk h.k8 hC1 hk (h8 _) hj hi, getD_blk h.k8 h.len hk hz hj hi]
  have lk : ∀ L, k ∉ L → Links C 0 (Pc.un P.kind) (Pc.per P.kind) L → Links (freeC C P k) 0 (Pc.un P.kind) (Pc.per P.kind) L := fun L hL hl =>
    links_out h.k8 hC1 hk (h8 _) L hL (links_out h.k8 h.len hk hz L hL hl)
  have hmem : ∀ j, j ∈ P.R ++ (k :: P.W) ↔ j = k ∨ j ∈ P.R ++ P.W := fun j => by
    simp only [List.mem_append, List.mem_cons]
    constructor
    · rintro (e | e | e)
      · exact .inr (.inl e)
      · exact .inl e
      · exact .inr (.inr e)
    · rintro (e | e | e)
      · exact .inr (.inl e)
      · exact .inl e
      · exact .inr (.inr e)
  refine ⟨{ len := by show (sto _ _ _).length = 512; rw [sto_len (by rw [hC1]; omega)]; exact hC1, k8 := h.k8, sl := by show (P.S.set k true).length = _; rw [List.length_set]; exact h.sl, fr := h.fr, rl := lk _ hkR h.rl, wl := ⟨hk, ?_, lk _ hkW h.wl⟩, nd := ?_, fs := fun j hj => ?_, sf := fun j hj hjs => ?_, sn := fun j h1 h2 => ?_, z := fun j h1 hjs i hi hm => ?_ }, oth⟩
  · rw [Nat.zero_add]
    exact word_sto (by rw [hC1]; omega) (hd_lt h.k8 h.wl)
  · show (P.R ++ (k :: P.W)).Nodup
    have := h.nd
    rw [List.nodup_append] at this ⊢
    refine ⟨this.1, List.nodup_cons.2 ⟨hkW, this.2.1⟩, fun a ha b hb => ?_⟩
    rcases List.mem_cons.1 hb with e | e
    · rw [e]; exact fun q => hkR (q ▸ ha)
    · exact this.2.2 a ha b e
  · rcases (hmem j).1 hj with e | e
    · subst e
      refine ⟨?_, hkf⟩
      show (P.S.set j true).getD j false = true
      rw [Sh.getD_set _ _ _ _ (by rw [h.sl]; exact hk), if_pos rfl]
    · have hne : j ≠ k := fun q => hkn (q ▸ e)
      exact ⟨by show (P.S.set k true).getD j false = true; rw [getD_ne hne]; exact (h.fs j e).1, (h.fs j e).2⟩
  · by_cases e : j = k
    · exact (hmem j).2 (.inl e)
    · have hjs : (P.S.set k true).getD j false = true := hjs
      rw [getD_ne e] at hjs
      exact (hmem j).2 (.inr (h.sf j hj hjs))
  · have h1 : P.fresh ≤ j := h1
    show (P.S.set k true).getD j false = true
    rw [getD_ne (by omega)]
    exact h.sn j h1 h2
  · have hjs : (P.S.set k true).getD j false = true := hjs
    have hi : i < Pc.un P.kind := hi
    by_cases e : j = k
    · subst e
      have hi8 := hm ((hmem j).2 (.inl rfl))
      show (sto _ _ _).getD (j * Pc.un P.kind + i) 0 = 0
      unfold sto
      rw [getD_bput (by rw [lw_len, hC1]; omega) (by rw [lw_len]; right; show j * Pc.un P.kind + 8 ≤ _; omega)]
      exact getD_zeros (by rw [h.len]; exact hf) (by show j * Pc.un P.kind ≤ j * Pc.un P.kind + i; omega) (by show j * Pc.un P.kind + i < j * Pc.un P.kind + Pc.un P.kind; omega)
    · rw [getD_ne e] at hjs
      show (freeC C P k).getD (j * Pc.un P.kind + i) 0 = 0
      rw [oth j e i hi]
      exact h.z j h1 hjs i hi (fun q => hm ((hmem j).2 (.inr q)))
end Pgi
end Go.Proofs.YtnheibcjcgacpaaGreatDoor
namespace Go.Proofs.YtnheibcjcgacpaaGreatDoor
open Go.RowKit Go.ChangeMaps
namespace Pgi
open Ar Pg
theorem al_out {B : Bs} {T : List Sp} {P : PG} (h : PI (cut B P.base) P) (hb : P.base + 512 ≤ B.length) {b : Nat} (hd : b + 512 ≤ P.base ∨ P.base + 512 ≤ b) : cut (alS P ⟨B, T⟩).B b = cut B b := by
  unfold alS
  cases hR : P.R with
  | cons k L =>
    have hk := links_lt h.rl k (by rw [hR]; exact List.mem_cons_self)
    have hf := blk_fit h.k8 hk
    have hu := un_ge h.k8
    exact cut_out (B := B) (by rw [lw_len]; omega) (by rw [lw_len]; omega)
  | nil =>
    cases hW : P.W with
    | cons k L =>
      have hk := links_lt h.wl k (by rw [hW]; exact List.mem_cons_self)
      have hf := blk_fit h.k8 hk
      have hu := un_ge h.k8
      exact cut_out (B := B) (by rw [lw_len]; omega) (by rw [lw_len]; omega)
    | nil => rfl
theorem free_out {B : Bs} {T : List Sp} {P : PG} {k : Nat} (h8 : P.kind < 8) (hb : P.base + 512 ≤ B.length) (hk : k < Pc.per P.kind) {b : Nat} (hd : b + 512 ≤ P.base ∨ P.base + 512 ≤ b) : cut (freeS P ⟨B, T⟩ k).B b = cut B b := by
  have hf := blk_fit h8 hk
  have hu := un_ge h8
  unfold freeS lc sto
  show cut (bput (bput B _ _) _ _) _ = _
  rw [cut_out (by rw [bput_length _ _ _ (by rw [List.length_replicate]; omega), lw_len]; omega) (by rw [lw_len]; omega), cut_out (by rw [List.length_replicate]; omega) (by rw [List.length_replicate]; omega)]
theorem used_set {P : PG} {S' : List Bool} {k : Nat} (hk : k < P.S.length) (hs : P.S.getD k false = true) (e : S' = P.S.set k false) : S'.length - (Sh.frees S').length ≠ 0 := by
  rw [e, List.length_set]
  have h1 := Sh.frees_len_false hk hs
  have h2 := Sh.frees_le P.S
  omega
theorem full_iff {P : PG} : full P = false ↔ Sh.frees P.S ≠ [] := by
  unfold full
  cases Sh.frees P.S <;> simp
theorem full_new {base c : Nat} (hc : c < 8) : full (newP base c) = false := by
  rw [full_iff]
  have := (Pc.per_range hc).1
  intro e
  have h : (0 : Nat) ∈ Sh.frees (newP base c).S := Sh.mem_frees.2 ⟨by show 0 < (List.replicate _ _).length; rw [List.length_replicate]; omega, getD_rep _ _ (by omega)⟩
  rw [e] at h; simp at h
theorem full_free {P : PG} {k : Nat} (hk : k < P.S.length) : full (freeP P k) = false := by
  rw [full_iff]
  intro e
  have h : k ∈ Sh.frees (freeP P k).S := Sh.mem_frees.2 ⟨by show k < (P.S.set k true).length; rw [List.length_set]; exact hk, by show (P.S.set k true).getD k false = true; rw [Sh.getD_set _ _ _ _ hk, if_pos rfl]⟩
  rw [e] at h; simp at h
end Pgi
end Go.Proofs.YtnheibcjcgacpaaGreatDoor
