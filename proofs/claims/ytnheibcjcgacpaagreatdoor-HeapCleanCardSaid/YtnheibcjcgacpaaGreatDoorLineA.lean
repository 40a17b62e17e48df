/- The line package's walks: what each call does to the map and to the two ends. | The line package's walks, second part: Push, Remove, Front, Len, New, All, and all calls at nil. | The line package's walks, third part: All; and what each call is, said of the list that a line stands for. -/
import Derived.Test.YtnheibcjcgacpaaGreatDoorRows
import Derived.Test.YtnheibcjcgacpaaGreatDoorLineP
import Derived.Test.YtnheibcjcgacpaaGreatDoorSlice
import Derived.WalkSpells
import Derived.WalkLawsBesides
import Derived.BigQuiet
import Derived.Deep.QuietTactic
import Derived.StillTailTactics
import Derived.Maps.Own
import Derived.Test.YtnheibcjcgacpaaGreatDoorSame
import Derived.WalkMore
set_option linter.unusedVariables false
set_option linter.unusedSimpArgs false
/-! The line package's walks: what each call does to the map and to the two ends. -/
namespace Go.Proofs.YtnheibcjcgacpaaGreatDoor
open Go.RowKit Go.ChangeMaps

namespace Line
abbrev near (p : Int × Int) : Value := .agg #[.int .i64 p.1, .int .i64 p.2]
theorem zero_near (w : World) : (zeroValue 254).run Tryz.prog w = .ok (near (0, 0)) w := by kernel_rfl

theorem field_near0 (x y : Int) (w : World) : (Instr.field 254 (.agg #[.int .i64 x, .int .i64 y]) 0).run Tryz.prog w = .ok (.int .i64 x) w := by kernel_rfl
theorem field_near1 (x y : Int) (w : World) : (Instr.field 254 (.agg #[.int .i64 x, .int .i64 y]) 1).run Tryz.prog w = .ok (.int .i64 y) w := by kernel_rfl
attribute [go_sem] field_near0 field_near1

/-- The block of a line: its map's block, its first and last. -/
def At (w : World) (b m : Nat) (E : List (Int × (Int × Int))) (f l : Int) : Prop :=
  w.heap[b]? = some (.cells #[.map (some m), .int .i64 f, .int .i64 l] 247 (0, 0)) ∧ EMap near w m E ∧ b ≠ m

set_option maxRecDepth 100000 in
set_option maxHeartbeats 400000 in
theorem has_any (w : World) (b m : Nat) (E : List (Int × (Int × Int))) (f l k : Int) (h : At w b m E f l) :
    Calls Tryz.prog 187 #[.pointer (some ⟨b, 0, none⟩), .int .i64 k] w fun e w' => e = .returned (.bool (eget E k).isSome) ∧ Keeps (fun _ => False) w w' := by
  obtain ⟨hb, hm, hne⟩ := h
  have c0 := cell_of hb 0 rfl
  have hl := hm.look_ok _ Tryz.underlying245 Tryz.underlying3 k (z := (0, 0)) (zero_near _)
  clear hb hm hne
  go_enter Tryz.func187, Tryz.ntmps187
  go_wp2
  go_ret
  exact ⟨rfl, (Keeps.refl _ _).alloc _⟩

/-- The first half of 'tie', as a world. -/
theorem tie_left (w : World) (b m : Nat) (E : List (Int × (Int × Int))) (f l a c : Int) (h : At w b m E f l) :
    (a = -1 → At (w.setCell ⟨b, 1, none⟩ (.int .i64 c)) b m (tE1 E a c) (tF f a c) l ∧ Keeps (fun x => x = b ∨ x = m) w (w.setCell ⟨b, 1, none⟩ (.int .i64 c))) ∧
    (a ≠ -1 → (Instr.lookup 245 (.map (some m)) (.int .i64 a) false).run Tryz.prog w.drew = .ok (.agg #[.int .i64 ((eget E a).getD (0, 0)).1, .int .i64 ((eget E a).getD (0, 0)).2]) w.drew ∧
      ∃ w1, (Instr.mapUpdate 245 (.map (some m)) (.int .i64 a) (.agg #[.int .i64 ((eget E a).getD (0, 0)).1, .int .i64 c])).run Tryz.prog w.drew = .ok () w1 ∧
        At w1 b m (tE1 E a c) (tF f a c) l ∧ Keeps (fun x => x = b ∨ x = m) w w1) := by
  obtain ⟨hb, hm, hne⟩ := h
  refine ⟨fun ha => ?_, fun ha => ?_⟩
  · unfold tF tE1
    rw [if_pos ha, if_pos ha]
    exact ⟨⟨by have := set_of hb 1 (.int .i64 c); simpa using this, hm.setCell _ _ (by simpa using Ne.symm hne), hne⟩, (Keeps.refl _ _).setCell _ _ (.inl (.inl rfl))⟩
  · unfold tF tE1
    rw [if_neg ha, if_neg ha]
    obtain ⟨w1, hu1, hm1, hk1⟩ := hm.drew.upd (P := Tryz.prog) _ Tryz.underlying245 Tryz.underlying3 a (((eget E a).getD (0, 0)).1, c)
    exact ⟨hm.drew.look _ Tryz.underlying245 Tryz.underlying3 a (z := (0, 0)) (zero_near _), w1, hu1, ⟨hk1.at (a := w.drew) hb hne, hm1, hne⟩, hk1.of_drew.mono (fun x _ hx => .inr hx)⟩
theorem tie_right (w : World) (b m : Nat) (E : List (Int × (Int × Int))) (f l a c : Int) (h : At w b m E f l) :
    (c = -1 → At (w.setCell ⟨b, 2, none⟩ (.int .i64 a)) b m (tE2 E a c) f (tL l a c) ∧ Keeps (fun x => x = b ∨ x = m) w (w.setCell ⟨b, 2, none⟩ (.int .i64 a))) ∧
    (c ≠ -1 → (Instr.lookup 245 (.map (some m)) (.int .i64 c) false).run Tryz.prog w.drew = .ok (.agg #[.int .i64 ((eget E c).getD (0, 0)).1, .int .i64 ((eget E c).getD (0, 0)).2]) w.drew ∧
      ∃ w1, (Instr.mapUpdate 245 (.map (some m)) (.int .i64 c) (.agg #[.int .i64 a, .int .i64 ((eget E c).getD (0, 0)).2])).run Tryz.prog w.drew = .ok () w1 ∧
        At w1 b m (tE2 E a c) f (tL l a c) ∧ Keeps (fun x => x = b ∨ x = m) w w1) := by
  obtain ⟨hb, hm, hne⟩ := h
  refine ⟨fun ha => ?_, fun ha => ?_⟩
  · unfold tL tE2
    rw [if_pos ha, if_pos ha]
    exact ⟨⟨by have := set_of hb 2 (.int .i64 a); simpa using this, hm.setCell _ _ (by simpa using Ne.symm hne), hne⟩, (Keeps.refl _ _).setCell _ _ (.inl (.inl rfl))⟩
  · unfold tL tE2
    rw [if_neg ha, if_neg ha]
    obtain ⟨w1, hu1, hm1, hk1⟩ := hm.drew.upd (P := Tryz.prog) _ Tryz.underlying245 Tryz.underlying3 c (a, ((eget E c).getD (0, 0)).2)
    exact ⟨hm.drew.look _ Tryz.underlying245 Tryz.underlying3 c (z := (0, 0)) (zero_near _), w1, hu1, ⟨hk1.at (a := w.drew) hb hne, hm1, hne⟩, hk1.of_drew.mono (fun x _ hx => .inr hx)⟩
theorem At.cells {w : World} {b m : Nat} {E : List (Int × (Int × Int))} {f l : Int} (h : At w b m E f l) : w.cell? ⟨b, 0, none⟩ = some (.map (some m)) ∧ w.cell? ⟨b, 1, none⟩ = some (.int .i64 f) ∧ w.cell? ⟨b, 2, none⟩ = some (.int .i64 l) ∧ w.frozen? ⟨b, 1, none⟩ = false ∧ w.frozen? ⟨b, 2, none⟩ = false :=
  ⟨cell_of h.1 0 rfl, cell_of h.1 1 rfl, cell_of h.1 2 rfl, free_of h.1 1, free_of h.1 2⟩

set_option maxRecDepth 100000 in
set_option maxHeartbeats 1000000 in
theorem tie_any (w : World) (b m : Nat) (E : List (Int × (Int × Int))) (f l a c : Int) (h : At w b m E f l) :
    Calls Tryz.prog 188 #[.pointer (some ⟨b, 0, none⟩), .int .i64 a, .int .i64 c] w fun e w' => e = .returned (.tuple #[]) ∧ At w' b m (tE2 (tE1 E a c) a c) (tF f a c) (tL l a c) ∧ Keeps (fun x => x = b ∨ x = m) w w' := by
  obtain ⟨c0, c1, c2, f1, f2⟩ := h.cells
  by_cases ha : a = -1
  · obtain ⟨h1, k1⟩ := (tie_left w b m E f l a c h).1 ha
    have ha' : (a == -1) = true := by simpa using ha
    obtain ⟨w1, hw1⟩ : ∃ w1, w.setCell ⟨b, 1, none⟩ (.int .i64 c) = w1 := ⟨_, rfl⟩
    rw [hw1] at h1 k1
    obtain ⟨d0, d1, d2, g1, g2⟩ := h1.cells
    by_cases hc : c = -1
    · obtain ⟨h2, k2⟩ := (tie_right w1 b m _ _ _ a c h1).1 hc
      have hc' : (c == -1) = true := by simpa using hc
      have hfin := And.intro h2 (k1.trans (k2.mono (fun x _ hx => hx)))
      clear h h1 h2 k1 k2 ha hc
      go_enter Tryz.func188, Tryz.ntmps188
      go_wp2
      go_end0
      exact ⟨rfl, hfin⟩
    · obtain ⟨hl2, w2, hu2, h2, k2⟩ := (tie_right w1 b m _ _ _ a c h1).2 hc
      have hc' : (c == -1) = false := by simpa using hc
      have hfin := And.intro h2 (k1.trans k2)
      clear h h1 h2 k1 k2 ha hc
      go_enter Tryz.func188, Tryz.ntmps188
      go_wp2
      go_region
      go_wp2
      go_end0
      exact ⟨rfl, hfin⟩
  · obtain ⟨hl1, w1, hu1, h1, k1⟩ := (tie_left w b m E f l a c h).2 ha
    have ha' : (a == -1) = false := by simpa using ha
    obtain ⟨d0, d1, d2, g1, g2⟩ := h1.cells
    by_cases hc : c = -1
    · obtain ⟨h2, k2⟩ := (tie_right w1 b m _ _ _ a c h1).1 hc
      have hc' : (c == -1) = true := by simpa using hc
      have hfin := And.intro h2 (k1.trans (k2.mono (fun x _ hx => hx)))
      clear h h1 h2 k1 k2 ha hc
      go_enter Tryz.func188, Tryz.ntmps188
      go_wp2
      go_region
      go_wp2
      go_end0
      exact ⟨rfl, hfin⟩
    · obtain ⟨hl2, w2, hu2, h2, k2⟩ := (tie_right w1 b m _ _ _ a c h1).2 hc
      have hc' : (c == -1) = false := by simpa using hc
      have hfin := And.intro h2 (k1.trans k2)
      clear h h1 h2 k1 k2 ha hc
      go_enter Tryz.func188, Tryz.ntmps188
      go_wp2
      go_region
      go_wp2
      go_region
      go_wp2
      go_end0
      exact ⟨rfl, hfin⟩
end Line
end Go.Proofs.YtnheibcjcgacpaaGreatDoor

/-! The line package's walks, second part: Push, Remove, Front, Len, New, All, and all calls at nil. -/
namespace Go.Proofs.YtnheibcjcgacpaaGreatDoor
open Go.RowKit Go.ChangeMaps
namespace Line

set_option maxRecDepth 100000 in
set_option maxHeartbeats 400000 in
theorem has_nil (k : Int) (w : World) : Calls Tryz.prog 187 #[.pointer none, .int .i64 k] w fun e w' => e = .returned (.bool false) ∧ w = w' := by
  go_enter Tryz.func187, Tryz.ntmps187
  go_wp2
  go_ret
  exact ⟨rfl, rfl⟩
set_option maxRecDepth 100000 in
set_option maxHeartbeats 400000 in
theorem front_nil (w : World) : Calls Tryz.prog 84 #[.pointer none] w fun e w' => e = .returned (.int .i64 (-1)) ∧ w = w' := by
  go_enter Tryz.func84, Tryz.ntmps84
  go_wp2
  go_ret
  exact ⟨rfl, rfl⟩
set_option maxRecDepth 100000 in
set_option maxHeartbeats 400000 in
theorem push_nil (k : Int) (w : World) : Calls Tryz.prog 90 #[.pointer none, .int .i64 k] w fun e w' => e = .returned (.int .i64 11) ∧ w = w' := by
  go_enter Tryz.func90, Tryz.ntmps90
  go_wp2
  go_ret
  exact ⟨rfl, rfl⟩
set_option maxRecDepth 100000 in
set_option maxHeartbeats 400000 in
theorem remove_nil (k : Int) (w : World) : Calls Tryz.prog 87 #[.pointer none, .int .i64 k] w fun e w' => e = .returned (.int .i64 11) ∧ w = w' := by
  go_enter Tryz.func87, Tryz.ntmps87
  go_wp2
  go_ret
  exact ⟨rfl, rfl⟩
set_option maxRecDepth 100000 in
set_option maxHeartbeats 400000 in
theorem front_any (w : World) (b m : Nat) (E : List (Int × (Int × Int))) (f l : Int) (h : At w b m E f l) :
    Calls Tryz.prog 84 #[.pointer (some ⟨b, 0, none⟩)] w fun e w' => e = .returned (.int .i64 f) ∧ w = w' := by
  obtain ⟨c0, c1, c2, f1, f2⟩ := h.cells
  clear h
  go_enter Tryz.func84, Tryz.ntmps84
  go_wp2
  go_ret
  exact ⟨rfl, rfl⟩
set_option maxRecDepth 100000 in
set_option maxHeartbeats 400000 in
theorem new_any (w : World) : Calls Tryz.prog 201 #[] w fun e w' => e = .returned (.pointer (some ⟨w.heap.size + 1, 0, none⟩)) ∧ At w' (w.heap.size + 1) w.heap.size [] (-1) (-1) ∧ Keeps (fun _ => False) w w' := by
  have hmm := @run_makeMap Tryz.prog
  go_enter Tryz.func201, Tryz.ntmps201
  go_wp2
  go_ret
  refine ⟨rfl, ⟨?_, (EMap.new near w).alloc _, by omega⟩, ((Keeps.refl _ _).alloc _).alloc _⟩
  have := alloc_new (w.alloc (.map #[] 0)) (.cells #[.map (some w.heap.size), .int .i64 (-1), .int .i64 (-1)] 247)
  simpa using this

set_option maxRecDepth 100000 in
set_option maxHeartbeats 400000 in
theorem push_neg (w : World) (b m : Nat) (E : List (Int × (Int × Int))) (f l k : Int) (h : At w b m E f l) (hk : k < 0) :
    Calls Tryz.prog 90 #[.pointer (some ⟨b, 0, none⟩), .int .i64 k] w fun e w' => e = .returned (.int .i64 12) ∧ w = w' := by
  go_enter Tryz.func90, Tryz.ntmps90
  go_wp2
  go_ret
  exact ⟨rfl, rfl⟩
set_option maxRecDepth 100000 in
set_option maxHeartbeats 400000 in
theorem push_there (w : World) (b m : Nat) (E : List (Int × (Int × Int))) (f l k : Int) (h : At w b m E f l) (hk : ¬ k < 0) (ht : (eget E k).isSome = true) :
    Calls Tryz.prog 90 #[.pointer (some ⟨b, 0, none⟩), .int .i64 k] w fun e w' => e = .returned (.int .i64 7) ∧ Keeps (fun _ => False) w w' := by
  have hc := has_any w b m E f l k h
  rw [ht] at hc
  go_enter Tryz.func90, Tryz.ntmps90
  go_wp2_with fail
  refine hc.mono ?_
  rintro e w' ⟨rfl, hk'⟩
  go_wp2
  go_ret
  exact ⟨rfl, hk'⟩
set_option maxRecDepth 100000 in
set_option maxHeartbeats 400000 in
theorem push_new (w : World) (b m : Nat) (E : List (Int × (Int × Int))) (f l k : Int) (h : At w b m E f l) (hk : ¬ k < 0) (ht : (eget E k).isSome = false) :
    Calls Tryz.prog 90 #[.pointer (some ⟨b, 0, none⟩), .int .i64 k] w fun e w' => e = .returned (.int .i64 0) ∧
      At w' b m (tE2 (tE1 (tE2 (tE1 (eset E k (-1, -1)) l k) l k) k (-1)) k (-1)) (tF (tF f l k) k (-1)) (tL (tL l l k) k (-1)) ∧ Keeps (fun x => x = b ∨ x = m) w w' := by
  have hc := has_any w b m E f l k h
  rw [ht] at hc
  go_enter Tryz.func90, Tryz.ntmps90
  go_wp2_with fail
  refine hc.mono ?_
  rintro e w1 ⟨rfl, k1⟩
  have h1 : At w1 b m E f l := ⟨k1.at h.1 (fun x => x), h.2.1.keep k1 (fun x => x), h.2.2⟩
  obtain ⟨c0, c1, c2, f1, f2⟩ := h1.cells
  obtain ⟨w2, hu2, hm2, k2⟩ := h1.2.1.upd (P := Tryz.prog) _ Tryz.underlying245 Tryz.underlying3 k (-1, -1)
  have h2 : At w2 b m (eset E k (-1, -1)) f l := ⟨k2.at h1.1 h1.2.2, hm2, h1.2.2⟩
  go_wp2_with fail
  refine (tie_any w2 b m _ _ _ l k h2).mono ?_
  rintro e w3 ⟨rfl, h3, k3⟩
  go_wp2_with fail
  refine (tie_any w3 b m _ _ _ k (-1) h3).mono ?_
  rintro e w4 ⟨rfl, h4, k4⟩
  go_wp2
  go_ret
  exact ⟨rfl, h4, (((k1.mono (fun x _ hx => hx.elim)).trans (k2.mono (fun x _ hx => .inr hx))).trans k3).trans k4⟩
set_option maxRecDepth 100000 in
set_option maxHeartbeats 400000 in
theorem remove_none (w : World) (b m : Nat) (E : List (Int × (Int × Int))) (f l k : Int) (h : At w b m E f l) (ht : (eget E k).isSome = false) :
    Calls Tryz.prog 87 #[.pointer (some ⟨b, 0, none⟩), .int .i64 k] w fun e w' => e = .returned (.int .i64 13) ∧ Keeps (fun _ => False) w w' := by
  have hc := has_any w b m E f l k h
  rw [ht] at hc
  go_enter Tryz.func87, Tryz.ntmps87
  go_wp2_with fail
  refine hc.mono ?_
  rintro e w' ⟨rfl, hk'⟩
  go_wp2
  go_ret
  exact ⟨rfl, hk'⟩
set_option maxRecDepth 100000 in
set_option maxHeartbeats 400000 in
theorem remove_some (w : World) (b m : Nat) (E : List (Int × (Int × Int))) (f l k : Int) (h : At w b m E f l) (p : Int × Int) (ht : eget E k = some p) :
    Calls Tryz.prog 87 #[.pointer (some ⟨b, 0, none⟩), .int .i64 k] w fun e w' => e = .returned (.int .i64 0) ∧
      At w' b m (tE2 (tE1 (edel E k) p.1 p.2) p.1 p.2) (tF f p.1 p.2) (tL l p.1 p.2) ∧ Keeps (fun x => x = b ∨ x = m) w w' := by
  have hc := has_any w b m E f l k h
  rw [ht] at hc
  simp only [Option.isSome_some] at hc
  go_enter Tryz.func87, Tryz.ntmps87
  go_wp2_with fail
  refine hc.mono ?_
  rintro e w1 ⟨rfl, k1⟩
  have h1 : At w1 b m E f l := ⟨k1.at h.1 (fun x => x), h.2.1.keep k1 (fun x => x), h.2.2⟩
  obtain ⟨c0, c1, c2, f1, f2⟩ := h1.cells
  have hl := h1.2.1.look (P := Tryz.prog) _ Tryz.underlying245 Tryz.underlying3 k (z := (0, 0)) (zero_near _)
  rw [ht] at hl
  simp only [near, Option.getD_some] at hl
  obtain ⟨w2, hw2⟩ : ∃ w2, w1.alloc (.cells #[.int .i64 p.1, .int .i64 p.2] 254) = w2 := ⟨_, rfl⟩
  have h2 : At w2 b m E f l := by rw [← hw2]; exact ⟨alloc_old h1.1 _, h1.2.1.alloc _, h1.2.2⟩
  have k2 : Keeps (fun x => x = b ∨ x = m) w w2 := by rw [← hw2]; exact (k1.mono (fun x _ hx => hx.elim)).alloc _
  have hz : w1.heap.size < w2.heap.size := by rw [← hw2]; simp
  have hn : w2.heap[w1.heap.size]? = some (.cells #[.int .i64 p.1, .int .i64 p.2] 254 (0, 0)) := by rw [← hw2]; exact alloc_new _ _
  have hb1 : b < w1.heap.size := lt_of h1.1
  have hm1 : m < w1.heap.size := h1.2.1.lt
  obtain ⟨d0, d1, d2, g1, g2⟩ := h2.cells
  obtain ⟨w3, hd3, hm3, k3⟩ := h2.2.1.del (P := Tryz.prog) (ty := 0) _ Tryz.underlying245 Tryz.underlying3 k
  have h3 : At w3 b m (edel E k) f l := ⟨k3.at h2.1 h1.2.2, hm3, h1.2.2⟩
  have hn3 := k3.at hn (by show ¬ _ = _; omega)
  have n0 := cell_of hn3 0 rfl
  have n1 := cell_of hn3 1 rfl
  go_wp2_with fail
  refine (tie_any w3 b m _ _ _ p.1 p.2 h3).mono ?_
  rintro e w4 ⟨rfl, h4, k4⟩
  go_wp2
  go_ret
  exact ⟨rfl, h4, (k2.trans (k3.mono (fun x _ hx => .inr hx))).trans k4⟩
end Line
end Go.Proofs.YtnheibcjcgacpaaGreatDoor

/-! The line package's walks, third part: All; and what each call is, said of the list that a line stands for. -/
namespace Go.Proofs.YtnheibcjcgacpaaGreatDoor
open Go.RowKit Go.ChangeMaps
namespace Line

/-- The first of a list, or -1. -/
def hd (L : List Int) : Int := L.headD (-1)
theorem hd_nil : hd [] = -1 := rfl
theorem hd_cons (x : Int) (r : List Int) : hd (x :: r) = x := rfl
theorem At.keep {F : Nat → Prop} {w w' : World} {b m : Nat} {E : Nbs} {f l : Int} (h : At w b m E f l) (hk : Keeps F w w') (hb : ¬ F b) (hm : ¬ F m) : At w' b m E f l :=
  ⟨hk.at h.1 hb, h.2.1.keep hk hm, h.2.2⟩

theorem chain_head {E : Nbs} {L D R : List Int} {f l : Int} (h : Lk E L f l) (hL : L = D ++ R) (x : Int) (r : List Int) (hR : R = x :: r) : ∃ p, eget E x = some (p, hd r) ∧ x ≠ -1 := by
  have hc := h.chain
  rw [hL, hR, chain_append] at hc
  exact ⟨_, hc.2.1, fun e => by have := h.nonneg x (by rw [hL, hR]; simp); omega⟩

/-- The line at b, its map at m, stands for the list L. -/
def Rep (w : World) (b m : Nat) (L : List Int) : Prop := ∃ E f l, At w b m E f l ∧ Lk E L f l
theorem Rep.keep {F : Nat → Prop} {w w' : World} {b m : Nat} {L : List Int} (h : Rep w b m L) (hk : Keeps F w w') (hb : ¬ F b) (hm : ¬ F m) : Rep w' b m L := by
  obtain ⟨E, f, l, h1, h2⟩ := h; exact ⟨E, f, l, h1.keep hk hb hm, h2⟩
theorem Rep.lt {w : World} {b m : Nat} {L : List Int} (h : Rep w b m L) : b < w.heap.size ∧ m < w.heap.size := by
  obtain ⟨E, f, l, h1, h2⟩ := h; exact ⟨lt_of h1.1, h1.2.1.lt⟩
theorem Rep.drewN {w : World} {b m : Nat} {L : List Int} (h : Rep w b m L) (n : Nat) : Rep (w.drewN n) b m L := h
theorem Rep.nodup {w : World} {b m : Nat} {L : List Int} (h : Rep w b m L) : L.Nodup := by obtain ⟨E, f, l, h1, h2⟩ := h; exact h2.nodup
theorem Rep.nonneg {w : World} {b m : Nat} {L : List Int} (h : Rep w b m L) : ∀ x ∈ L, 0 ≤ x := by obtain ⟨E, f, l, h1, h2⟩ := h; exact h2.nonneg

def pushE (L : List Int) (k : Int) : Int := if k < 0 then 12 else if k ∈ L then 7 else 0
def pushL (L : List Int) (k : Int) : List Int := if k < 0 then L else if k ∈ L then L else L ++ [k]
def removeE (L : List Int) (k : Int) : Int := if k ∈ L then 0 else 13
def removeL (L : List Int) (k : Int) : List Int := L.filter (fun x => !(x == k))

theorem rep_new (w : World) : Calls Tryz.prog 201 #[] w fun e w' => e = .returned (.pointer (some ⟨w.heap.size + 1, 0, none⟩)) ∧ Rep w' (w.heap.size + 1) w.heap.size [] ∧ Keeps (fun _ => False) w w' :=
  (new_any w).mono fun e w' ⟨h1, h2, h3⟩ => ⟨h1, ⟨_, _, _, h2, Lk.empty⟩, h3⟩
theorem rep_has (w : World) (b m : Nat) (L : List Int) (k : Int) (h : Rep w b m L) :
    Calls Tryz.prog 187 #[.pointer (some ⟨b, 0, none⟩), .int .i64 k] w fun e w' => e = .returned (.bool (decide (k ∈ L))) ∧ Keeps (fun _ => False) w w' := by
  obtain ⟨E, f, l, h1, h2⟩ := h
  refine (has_any w b m E f l k h1).mono fun e w' ⟨h3, h4⟩ => ⟨?_, h4⟩
  rw [h3]
  congr 2
  rw [Bool.eq_iff_iff, h2.dom]; simp
theorem rep_front (w : World) (b m : Nat) (L : List Int) (h : Rep w b m L) :
    Calls Tryz.prog 84 #[.pointer (some ⟨b, 0, none⟩)] w fun e w' => e = .returned (.int .i64 (hd L)) ∧ w = w' := by
  obtain ⟨E, f, l, h1, h2⟩ := h
  obtain rfl : f = hd L := h2.first
  exact front_any w b m E _ l h1
theorem rep_push (w : World) (b m : Nat) (L : List Int) (k : Int) (h : Rep w b m L) :
    Calls Tryz.prog 90 #[.pointer (some ⟨b, 0, none⟩), .int .i64 k] w fun e w' => e = .returned (.int .i64 (pushE L k)) ∧ Rep w' b m (pushL L k) ∧ Keeps (fun x => x = b ∨ x = m) w w' := by
  have h0 := h
  obtain ⟨E, f, l, h1, h2⟩ := h
  unfold pushE pushL
  by_cases hk : k < 0
  · rw [if_pos hk, if_pos hk]
    exact (push_neg w b m E f l k h1 hk).mono fun e w' ⟨h3, h4⟩ => ⟨h3, h4 ▸ h0, h4 ▸ Keeps.refl _ _⟩
  · rw [if_neg hk, if_neg hk]
    by_cases hm : k ∈ L
    · rw [if_pos hm, if_pos hm]
      exact (push_there w b m E f l k h1 hk ((h2.dom k).2 hm)).mono fun e w' ⟨h3, h4⟩ => ⟨h3, h0.keep h4 (fun x => x) (fun x => x), h4.mono fun x _ hx => hx.elim⟩
    · rw [if_neg hm, if_neg hm]
      have : (eget E k).isSome = false := by
        rw [Bool.eq_false_iff]; exact fun e => hm ((h2.dom k).1 e)
      exact (push_new w b m E f l k h1 hk this).mono fun e w' ⟨h3, h4, h5⟩ => ⟨h3, ⟨_, _, _, h4, push_law h2 (by omega) hm⟩, h5⟩
theorem rep_remove (w : World) (b m : Nat) (L : List Int) (k : Int) (h : Rep w b m L) :
    Calls Tryz.prog 87 #[.pointer (some ⟨b, 0, none⟩), .int .i64 k] w fun e w' => e = .returned (.int .i64 (removeE L k)) ∧ Rep w' b m (removeL L k) ∧ Keeps (fun x => x = b ∨ x = m) w w' := by
  have h0 := h
  obtain ⟨E, f, l, h1, h2⟩ := h
  unfold removeE removeL
  by_cases hm : k ∈ L
  · rw [if_pos hm]
    cases hp : eget E k with
    | none => have := (h2.dom k).2 hm; rw [hp] at this; cases this
    | some p => exact (remove_some w b m E f l k h1 p hp).mono fun e w' ⟨h3, h4, h5⟩ => ⟨h3, ⟨_, _, _, h4, remove_law h2 p hp⟩, h5⟩
  · rw [if_neg hm]
    have : (eget E k).isSome = false := by
      rw [Bool.eq_false_iff]; exact fun e => hm ((h2.dom k).1 e)
    have hf : L.filter (fun x => !(x == k)) = L := List.filter_eq_self.2 fun x hx => by simp; rintro rfl; exact hm hx
    rw [hf]
    exact (remove_none w b m E f l k h1 this).mono fun e w' ⟨h3, h4⟩ => ⟨h3, h0.keep h4 (fun x => x) (fun x => x), h4.mono fun x _ hx => hx.elim⟩
end Line
end Go.Proofs.YtnheibcjcgacpaaGreatDoor
