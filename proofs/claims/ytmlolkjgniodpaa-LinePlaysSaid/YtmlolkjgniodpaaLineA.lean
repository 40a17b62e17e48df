/- The line package's walks: what each call does to the map and to the two ends. -/
import Derived.Test.YtmlolkjgniodpaaRows
import Derived.Test.YtmlolkjgniodpaaLineP
import Derived.Test.YtmlolkjgniodpaaSlice
import Derived.WalkSpells
import Derived.WalkLawsBesides
import Derived.BigQuiet
import Derived.Deep.QuietTactic
import Derived.StillTailTactics
import Derived.Maps.Own
set_option linter.unusedVariables false
set_option linter.unusedSimpArgs false
namespace Go.Proofs.Ytmlolkjgniodpaa
open Go.RowKit Go.ChangeMaps

namespace Line
abbrev near (p : Int × Int) : Value := .agg #[.int .i64 p.1, .int .i64 p.2]
theorem zero_near (w : World) : (zeroValue 93).run Try.prog w = .ok (near (0, 0)) w := by kernel_rfl

theorem field_near0 (x y : Int) (w : World) : (Instr.field 93 (.agg #[.int .i64 x, .int .i64 y]) 0).run Try.prog w = .ok (.int .i64 x) w := by kernel_rfl
theorem field_near1 (x y : Int) (w : World) : (Instr.field 93 (.agg #[.int .i64 x, .int .i64 y]) 1).run Try.prog w = .ok (.int .i64 y) w := by kernel_rfl
attribute [go_sem] field_near0 field_near1

/-- The block of a line: its map's block, its first and last. -/
def At (w : World) (b m : Nat) (E : List (Int × (Int × Int))) (f l : Int) : Prop :=
  w.heap[b]? = some (.cells #[.map (some m), .int .i64 f, .int .i64 l] 91 (0, 0)) ∧ EMap near w m E ∧ b ≠ m

set_option maxRecDepth 100000 in
set_option maxHeartbeats 400000 in
theorem has_any (w : World) (b m : Nat) (E : List (Int × (Int × Int))) (f l k : Int) (h : At w b m E f l) :
    Calls Try.prog 28 #[.pointer (some ⟨b, 0, none⟩), .int .i64 k] w fun e w' => e = .returned (.bool (eget E k).isSome) ∧ Keeps (fun _ => False) w w' := by
  obtain ⟨hb, hm, hne⟩ := h
  have c0 := cell_of hb 0 rfl
  have hl := hm.look_ok _ Try.underlying89 Try.underlying3 k (z := (0, 0)) (zero_near _)
  clear hb hm hne
  go_enter Try.func28, Try.ntmps28
  go_wp2
  go_ret
  exact ⟨rfl, (Keeps.refl _ _).alloc _⟩

/-- The first half of 'tie', as a world. -/
theorem tie_left (w : World) (b m : Nat) (E : List (Int × (Int × Int))) (f l a c : Int) (h : At w b m E f l) :
    (a = -1 → At (w.setCell ⟨b, 1, none⟩ (.int .i64 c)) b m (tE1 E a c) (tF f a c) l ∧ Keeps (fun x => x = b ∨ x = m) w (w.setCell ⟨b, 1, none⟩ (.int .i64 c))) ∧
    (a ≠ -1 → (Instr.lookup 89 (.map (some m)) (.int .i64 a) false).run Try.prog w.drew = .ok (.agg #[.int .i64 ((eget E a).getD (0, 0)).1, .int .i64 ((eget E a).getD (0, 0)).2]) w.drew ∧
      ∃ w1, (Instr.mapUpdate 89 (.map (some m)) (.int .i64 a) (.agg #[.int .i64 ((eget E a).getD (0, 0)).1, .int .i64 c])).run Try.prog w.drew = .ok () w1 ∧
        At w1 b m (tE1 E a c) (tF f a c) l ∧ Keeps (fun x => x = b ∨ x = m) w w1) := by
  obtain ⟨hb, hm, hne⟩ := h
  refine ⟨fun ha => ?_, fun ha => ?_⟩
  · unfold tF tE1
    rw [if_pos ha, if_pos ha]
    exact ⟨⟨by have := set_of hb 1 (.int .i64 c); simpa using this, hm.setCell _ _ (by simpa using Ne.symm hne), hne⟩, (Keeps.refl _ _).setCell _ _ (.inl (.inl rfl))⟩
  · unfold tF tE1
    rw [if_neg ha, if_neg ha]
    obtain ⟨w1, hu1, hm1, hk1⟩ := hm.drew.upd (P := Try.prog) _ Try.underlying89 Try.underlying3 a (((eget E a).getD (0, 0)).1, c)
    exact ⟨hm.drew.look _ Try.underlying89 Try.underlying3 a (z := (0, 0)) (zero_near _), w1, hu1, ⟨hk1.at (a := w.drew) hb hne, hm1, hne⟩, hk1.of_drew.mono (fun x _ hx => .inr hx)⟩
theorem tie_right (w : World) (b m : Nat) (E : List (Int × (Int × Int))) (f l a c : Int) (h : At w b m E f l) :
    (c = -1 → At (w.setCell ⟨b, 2, none⟩ (.int .i64 a)) b m (tE2 E a c) f (tL l a c) ∧ Keeps (fun x => x = b ∨ x = m) w (w.setCell ⟨b, 2, none⟩ (.int .i64 a))) ∧
    (c ≠ -1 → (Instr.lookup 89 (.map (some m)) (.int .i64 c) false).run Try.prog w.drew = .ok (.agg #[.int .i64 ((eget E c).getD (0, 0)).1, .int .i64 ((eget E c).getD (0, 0)).2]) w.drew ∧
      ∃ w1, (Instr.mapUpdate 89 (.map (some m)) (.int .i64 c) (.agg #[.int .i64 a, .int .i64 ((eget E c).getD (0, 0)).2])).run Try.prog w.drew = .ok () w1 ∧
        At w1 b m (tE2 E a c) f (tL l a c) ∧ Keeps (fun x => x = b ∨ x = m) w w1) := by
  obtain ⟨hb, hm, hne⟩ := h
  refine ⟨fun ha => ?_, fun ha => ?_⟩
  · unfold tL tE2
    rw [if_pos ha, if_pos ha]
    exact ⟨⟨by have := set_of hb 2 (.int .i64 a); simpa using this, hm.setCell _ _ (by simpa using Ne.symm hne), hne⟩, (Keeps.refl _ _).setCell _ _ (.inl (.inl rfl))⟩
  · unfold tL tE2
    rw [if_neg ha, if_neg ha]
    obtain ⟨w1, hu1, hm1, hk1⟩ := hm.drew.upd (P := Try.prog) _ Try.underlying89 Try.underlying3 c (a, ((eget E c).getD (0, 0)).2)
    exact ⟨hm.drew.look _ Try.underlying89 Try.underlying3 c (z := (0, 0)) (zero_near _), w1, hu1, ⟨hk1.at (a := w.drew) hb hne, hm1, hne⟩, hk1.of_drew.mono (fun x _ hx => .inr hx)⟩
theorem At.cells {w : World} {b m : Nat} {E : List (Int × (Int × Int))} {f l : Int} (h : At w b m E f l) : w.cell? ⟨b, 0, none⟩ = some (.map (some m)) ∧ w.cell? ⟨b, 1, none⟩ = some (.int .i64 f) ∧ w.cell? ⟨b, 2, none⟩ = some (.int .i64 l) ∧ w.frozen? ⟨b, 1, none⟩ = false ∧ w.frozen? ⟨b, 2, none⟩ = false :=
  ⟨cell_of h.1 0 rfl, cell_of h.1 1 rfl, cell_of h.1 2 rfl, free_of h.1 1, free_of h.1 2⟩

set_option maxRecDepth 100000 in
set_option maxHeartbeats 1000000 in
theorem tie_any (w : World) (b m : Nat) (E : List (Int × (Int × Int))) (f l a c : Int) (h : At w b m E f l) :
    Calls Try.prog 56 #[.pointer (some ⟨b, 0, none⟩), .int .i64 a, .int .i64 c] w fun e w' => e = .returned (.tuple #[]) ∧ At w' b m (tE2 (tE1 E a c) a c) (tF f a c) (tL l a c) ∧ Keeps (fun x => x = b ∨ x = m) w w' := by
  obtain ⟨c0, c1, c2, f1, f2⟩ := h.cells
  by_cases ha : a = -1
  · obtain ⟨h1, k1⟩ := (tie_left w b m E f l a c h).1 ha
    have ha' : (a == -1) = true := by simpa using ha
    obtain ⟨w1, hw1⟩ : ∃ w1, w.setCell ⟨b, 1, none⟩ (.int .i64 c) = w1 := ⟨_, rfl⟩
    rw [hw1] at h1 k1
    obtain ⟨d0, d1, d2, g1, g2⟩ := h1.cells
    by_cases hc : c = -1
    · obtain ⟨h2, k2⟩ := (tie_right w1 b m _ _ _ a c h1).1 hc
      have hc' : (c == -1) = true := by simpa using hc
      have hfin := And.intro h2 (k1.trans (k2.mono (fun x _ hx => hx)))
      clear h h1 h2 k1 k2 ha hc
      go_enter Try.func56, Try.ntmps56
      go_wp2
      go_end0
      exact ⟨rfl, hfin⟩
    · obtain ⟨hl2, w2, hu2, h2, k2⟩ := (tie_right w1 b m _ _ _ a c h1).2 hc
      have hc' : (c == -1) = false := by simpa using hc
      have hfin := And.intro h2 (k1.trans k2)
      clear h h1 h2 k1 k2 ha hc
      go_enter Try.func56, Try.ntmps56
      go_wp2
      go_region
      go_wp2
      go_end0
      exact ⟨rfl, hfin⟩
  · obtain ⟨hl1, w1, hu1, h1, k1⟩ := (tie_left w b m E f l a c h).2 ha
    have ha' : (a == -1) = false := by simpa using ha
    obtain ⟨d0, d1, d2, g1, g2⟩ := h1.cells
    by_cases hc : c = -1
    · obtain ⟨h2, k2⟩ := (tie_right w1 b m _ _ _ a c h1).1 hc
      have hc' : (c == -1) = true := by simpa using hc
      have hfin := And.intro h2 (k1.trans (k2.mono (fun x _ hx => hx)))
      clear h h1 h2 k1 k2 ha hc
      go_enter Try.func56, Try.ntmps56
      go_wp2
      go_region
      go_wp2
      go_end0
      exact ⟨rfl, hfin⟩
    · obtain ⟨hl2, w2, hu2, h2, k2⟩ := (tie_right w1 b m _ _ _ a c h1).2 hc
      have hc' : (c == -1) = false := by simpa using hc
      have hfin := And.intro h2 (k1.trans k2)
      clear h h1 h2 k1 k2 ha hc
      go_enter Try.func56, Try.ntmps56
      go_wp2
      go_region
      go_wp2
      go_region
      go_wp2
      go_end0
      exact ⟨rfl, hfin⟩
end Line
end Go.Proofs.Ytmlolkjgniodpaa
