/- The line package's walks, third part: All; and what each call is, said of the list that a line stands for. -/
import Derived.Test.YtmlolkjgniodpaaLineB
import Derived.Test.YtmlolkjgniodpaaSame
import Derived.WalkMore
set_option linter.unusedVariables false
set_option linter.unusedSimpArgs false
namespace Go.Proofs.Ytmlolkjgniodpaa
open Go.RowKit Go.ChangeMaps
namespace Line

/-- The first of a list, or -1. -/
def hd (L : List Int) : Int := L.headD (-1)
theorem hd_nil : hd [] = -1 := rfl
theorem hd_cons (x : Int) (r : List Int) : hd (x :: r) = x := rfl
theorem At.keep {F : Nat → Prop} {w w' : World} {b m : Nat} {E : Nbs} {f l : Int} (h : At w b m E f l) (hk : Keeps F w w') (hb : ¬ F b) (hm : ¬ F m) : At w' b m E f l :=
  ⟨hk.at h.1 hb, h.2.1.keep hk hm, h.2.2⟩

theorem chain_head {E : Nbs} {L D R : List Int} {f l : Int} (h : Lk E L f l) (hL : L = D ++ R) (x : Int) (r : List Int) (hR : R = x :: r) : ∃ p, eget E x = some (p, hd r) ∧ x ≠ -1 := by
  have hc := h.chain
  rw [hL, hR, chain_append] at hc
  exact ⟨_, hc.2.1, fun e => by have := h.nonneg x (by rw [hL, hR]; simp); omega⟩

set_option maxRecDepth 100000 in
set_option maxHeartbeats 1000000 in
theorem all_any (w : World) (b m : Nat) (E : Nbs) (L : List Int) (f l : Int) (h : At w b m E f l) (hL : Lk E L f l) (hlen : L.length ≤ 1000000) :
    Calls Try.prog 30 #[.pointer (some ⟨b, 0, none⟩)] w fun e w' => ∃ v, e = .returned v ∧ Own w' 3 1 v L.length (ints L) ∧ (∀ g, v.ownBlock = some g → w.heap.size ≤ g) ∧ Keeps (fun _ => False) w w' := by
  obtain rfl : f = hd L := hL.first
  go_enter Try.func30, Try.ntmps30
  go_wp2
  refine wp_scope_once 0 (fun n a' w' => ∃ (D R : List Int) (v u4 u5 u6 u7 u8 u9 u10 u11 u12 u13 u14 u15 u16 u17 u18 u19 : Value), n = R.length ∧ L = D ++ R ∧
      a' = { tmps := #[.pointer (some ⟨b, 0, none⟩), undef, v, .int .i64 (hd R), u4, u5, u6, u7, u8, u9, u10, u11, u12, u13, u14, u15, u16, u17, u18, u19], defers := [] } ∧
      Own w' 3 1 v D.length (ints D) ∧ (∀ g, v.ownBlock = some g → w.heap.size ≤ g) ∧ Keeps (fun _ => False) w w') rfl ?_ ?_
  · rintro n a' w' ⟨D, R, v, u4, u5, u6, u7, u8, u9, u10, u11, u12, u13, u14, u15, u16, u17, u18, u19, rfl, HL, rfl, hown, hfr, hk⟩
    cases R with
    | nil =>
      simp only [hd_nil]
      go_wp2
      simp only [Exit.jump]
      go_ret
      simp only [List.append_nil] at HL
      subst HL
      exact ⟨v, rfl, hown, hfr, hk⟩
    | cons x r =>
      obtain ⟨p, hp, hx⟩ := chain_head hL HL x r rfl
      simp only [hd_cons]
      have hx' : (x == -1) = false := by simpa using hx
      have hn : D.length + 1 ≤ 1000000 := by have := congrArg List.length HL; simp at this; omega
      have h1 := h.keep hk (fun x => x) (fun x => x)
      have hbl := lt_of h.1
      have hml := h.2.1.lt
      clear h
      have HL' := And.intro HL hL
      clear HL hL hx
      have HP : Hid (eget E x = some (p, hd r)) := hp
      clear hp
      go_wp2_with (at_builtin; refine wpList_app1 slInts w' rfl _ _ rfl v D.length (ints D) rfl hown [.int .i64 x] rfl rfl (by simp [Value.oneCell']) (by unfold maxLen; omega) (by omega) ?_; intro v1 w1 hown1 hk1 hat1; have h2 := h1.keep hk1 (fun e => by have := hfr _ e; omega) (fun e => by have := hfr _ e; omega); obtain ⟨c0, c1, c2, f1, f2⟩ := h2.cells; have hl := h2.2.1.look (P := Try.prog) _ Try.underlying89 Try.underlying3 x (z := (0, 0)) (zero_near _); rw [HP.out] at hl; simp only [near, Option.getD_some] at hl)
      go_step3
      refine ⟨rfl, r.length, by simp, D ++ [x], r, v1, _, _, _, _, _, _, _, _, _, _, _, _, _, _, _, _, rfl, by rw [HL'.1]; simp, rfl, ?_, ?_, ?_⟩
      · have := hown1
        rw [List.length_append, ints_append]
        exact hown1
      · intro g hg
        rcases hat1 with e | e
        · exact hfr g (by rw [← e]; exact hg)
        · rw [e] at hg; cases hg
          have := hk.size; omega
      · exact hk.trans' hk1 (fun x hx _ => by have := hfr _ hx; omega)
  · intro hr
    go_wp2_with (go_at_call 26; refine (front_any w b m E _ l h).mono ?_; rintro e w1 ⟨rfl, rfl⟩)
    go_step3
    refine (by assumption : ∀ (a : Act) (w : World), Code.wp _ _ _ a w → _) _ _ ?_
    refine hr _ _ _ ⟨[], L, _, _, _, _, _, _, _, _, _, _, _, _, _, _, _, _, _, rfl, rfl, rfl, Own.nil _ _ _, by simp [Value.ownBlock], Keeps.refl _ _⟩

/-- The line at b, its map at m, stands for the list L. -/
def Rep (w : World) (b m : Nat) (L : List Int) : Prop := ∃ E f l, At w b m E f l ∧ Lk E L f l
theorem Rep.keep {F : Nat → Prop} {w w' : World} {b m : Nat} {L : List Int} (h : Rep w b m L) (hk : Keeps F w w') (hb : ¬ F b) (hm : ¬ F m) : Rep w' b m L := by
  obtain ⟨E, f, l, h1, h2⟩ := h; exact ⟨E, f, l, h1.keep hk hb hm, h2⟩
theorem Rep.lt {w : World} {b m : Nat} {L : List Int} (h : Rep w b m L) : b < w.heap.size ∧ m < w.heap.size := by
  obtain ⟨E, f, l, h1, h2⟩ := h; exact ⟨lt_of h1.1, h1.2.1.lt⟩
theorem Rep.drewN {w : World} {b m : Nat} {L : List Int} (h : Rep w b m L) (n : Nat) : Rep (w.drewN n) b m L := h
theorem Rep.nodup {w : World} {b m : Nat} {L : List Int} (h : Rep w b m L) : L.Nodup := by obtain ⟨E, f, l, h1, h2⟩ := h; exact h2.nodup
theorem Rep.nonneg {w : World} {b m : Nat} {L : List Int} (h : Rep w b m L) : ∀ x ∈ L, 0 ≤ x := by obtain ⟨E, f, l, h1, h2⟩ := h; exact h2.nonneg

def pushE (L : List Int) (k : Int) : Int := if k < 0 then 12 else if k ∈ L then 7 else 0
def pushL (L : List Int) (k : Int) : List Int := if k < 0 then L else if k ∈ L then L else L ++ [k]
def removeE (L : List Int) (k : Int) : Int := if k ∈ L then 0 else 13
def removeL (L : List Int) (k : Int) : List Int := L.filter (fun x => !(x == k))

theorem rep_new (w : World) : Calls Try.prog 24 #[] w fun e w' => e = .returned (.pointer (some ⟨w.heap.size + 1, 0, none⟩)) ∧ Rep w' (w.heap.size + 1) w.heap.size [] ∧ Keeps (fun _ => False) w w' :=
  (new_any w).mono fun e w' ⟨h1, h2, h3⟩ => ⟨h1, ⟨_, _, _, h2, Lk.empty⟩, h3⟩
theorem rep_has (w : World) (b m : Nat) (L : List Int) (k : Int) (h : Rep w b m L) :
    Calls Try.prog 28 #[.pointer (some ⟨b, 0, none⟩), .int .i64 k] w fun e w' => e = .returned (.bool (decide (k ∈ L))) ∧ Keeps (fun _ => False) w w' := by
  obtain ⟨E, f, l, h1, h2⟩ := h
  refine (has_any w b m E f l k h1).mono fun e w' ⟨h3, h4⟩ => ⟨?_, h4⟩
  rw [h3]
  congr 2
  rw [Bool.eq_iff_iff, h2.dom]; simp
theorem rep_front (w : World) (b m : Nat) (L : List Int) (h : Rep w b m L) :
    Calls Try.prog 26 #[.pointer (some ⟨b, 0, none⟩)] w fun e w' => e = .returned (.int .i64 (hd L)) ∧ w = w' := by
  obtain ⟨E, f, l, h1, h2⟩ := h
  obtain rfl : f = hd L := h2.first
  exact front_any w b m E _ l h1
theorem rep_len (w : World) (b m : Nat) (L : List Int) (h : Rep w b m L) :
    Calls Try.prog 29 #[.pointer (some ⟨b, 0, none⟩)] w fun e w' => e = .returned (.int .i64 L.length) ∧ w = w' := by
  obtain ⟨E, f, l, h1, h2⟩ := h
  rw [← h2.len]
  exact len_any w b m E f l h1
theorem rep_all (w : World) (b m : Nat) (L : List Int) (h : Rep w b m L) (hlen : L.length ≤ 1000000) :
    Calls Try.prog 30 #[.pointer (some ⟨b, 0, none⟩)] w fun e w' => ∃ v, e = .returned v ∧ Own w' 3 1 v L.length (ints L) ∧ (∀ g, v.ownBlock = some g → w.heap.size ≤ g) ∧ Keeps (fun _ => False) w w' := by
  obtain ⟨E, f, l, h1, h2⟩ := h
  exact all_any w b m E L f l h1 h2 hlen
theorem rep_push (w : World) (b m : Nat) (L : List Int) (k : Int) (h : Rep w b m L) :
    Calls Try.prog 25 #[.pointer (some ⟨b, 0, none⟩), .int .i64 k] w fun e w' => e = .returned (.int .i64 (pushE L k)) ∧ Rep w' b m (pushL L k) ∧ Keeps (fun x => x = b ∨ x = m) w w' := by
  have h0 := h
  obtain ⟨E, f, l, h1, h2⟩ := h
  unfold pushE pushL
  by_cases hk : k < 0
  · rw [if_pos hk, if_pos hk]
    exact (push_neg w b m E f l k h1 hk).mono fun e w' ⟨h3, h4⟩ => ⟨h3, h4 ▸ h0, h4 ▸ Keeps.refl _ _⟩
  · rw [if_neg hk, if_neg hk]
    by_cases hm : k ∈ L
    · rw [if_pos hm, if_pos hm]
      exact (push_there w b m E f l k h1 hk ((h2.dom k).2 hm)).mono fun e w' ⟨h3, h4⟩ => ⟨h3, h0.keep h4 (fun x => x) (fun x => x), h4.mono fun x _ hx => hx.elim⟩
    · rw [if_neg hm, if_neg hm]
      have : (eget E k).isSome = false := by
        rw [Bool.eq_false_iff]; exact fun e => hm ((h2.dom k).1 e)
      exact (push_new w b m E f l k h1 hk this).mono fun e w' ⟨h3, h4, h5⟩ => ⟨h3, ⟨_, _, _, h4, push_law h2 (by omega) hm⟩, h5⟩
theorem rep_remove (w : World) (b m : Nat) (L : List Int) (k : Int) (h : Rep w b m L) :
    Calls Try.prog 27 #[.pointer (some ⟨b, 0, none⟩), .int .i64 k] w fun e w' => e = .returned (.int .i64 (removeE L k)) ∧ Rep w' b m (removeL L k) ∧ Keeps (fun x => x = b ∨ x = m) w w' := by
  have h0 := h
  obtain ⟨E, f, l, h1, h2⟩ := h
  unfold removeE removeL
  by_cases hm : k ∈ L
  · rw [if_pos hm]
    cases hp : eget E k with
    | none => have := (h2.dom k).2 hm; rw [hp] at this; cases this
    | some p => exact (remove_some w b m E f l k h1 p hp).mono fun e w' ⟨h3, h4, h5⟩ => ⟨h3, ⟨_, _, _, h4, remove_law h2 p hp⟩, h5⟩
  · rw [if_neg hm]
    have : (eget E k).isSome = false := by
      rw [Bool.eq_false_iff]; exact fun e => hm ((h2.dom k).1 e)
    have hf : L.filter (fun x => !(x == k)) = L := List.filter_eq_self.2 fun x hx => by simp; rintro rfl; exact hm hx
    rw [hf]
    exact (remove_none w b m E f l k h1 this).mono fun e w' ⟨h3, h4⟩ => ⟨h3, h0.keep h4 (fun x => x) (fun x => x), h4.mono fun x _ hx => hx.elim⟩
end Line
end Go.Proofs.Ytmlolkjgniodpaa
