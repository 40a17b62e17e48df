/- The table package's walks: New, look, Find, Holder, put, Map, Unmap, Swap, Len. | The table package's walks, second part: Map, Unmap, Swap; all calls at nil. | The table package's walks, third part: Pieces, with place.At and place.Within; garthref01.Same. | The plain law of the table: pairs, there and back. No program in sight. | The table package's walks, fourth part: Pieces. | The table: garthlaw15.awake, the invariant of its pairs. | A script's operations of the table; the table's calls under its invariant. -/
import Derived.Test.YtnheibcjcgacpaaGreatDoorRows
import Derived.Test.YtnheibcjcgacpaaGreatDoorLineP
import Derived.Test.YtnheibcjcgacpaaGreatDoorEntry
import Derived.WalkSpells
import Derived.WalkLawsBesides
import Derived.BigQuiet
import Derived.BigRegion
import Derived.Deep.QuietTactic
import Derived.Test.YtnheibcjcgacpaaGreatDoorFloat
import Derived.Test.YtnheibcjcgacpaaGreatDoorSame
import Derived.Laws.Cover3
import Derived.Test.YtnheibcjcgacpaaGreatDoorSpan
set_option linter.unusedVariables false
set_option linter.unusedSimpArgs false
/-! The table package's walks: New, look, Find, Holder, put, Map, Unmap, Swap, Len. -/
namespace Go.Proofs.YtnheibcjcgacpaaGreatDoor
open Go.RowKit Go.ChangeMaps
namespace Tab
abbrev Prs := List (Int × Int)
theorem zero_int (w : World) : (zeroValue 3).run Tryz.prog w = .ok (.int .i64 0) w := by kernel_rfl
/-- The block of a table, its two maps' blocks and pairs. -/
def At (w : World) (b m n : Nat) (E G : Prs) : Prop :=
  w.heap[b]? = some (.cells #[.map (some m), .map (some n)] 170 (0, 0)) ∧ EMap (Value.int .i64) w m E ∧ EMap (Value.int .i64) w n G ∧ b ≠ m ∧ b ≠ n ∧ m ≠ n
theorem At.keep {F : Nat → Prop} {w w' : World} {b m n : Nat} {E G : Prs} (h : At w b m n E G) (hk : Keeps F w w') (hb : ¬ F b) (hm : ¬ F m) (hn : ¬ F n) : At w' b m n E G :=
  ⟨hk.at h.1 hb, h.2.1.keep hk hm, h.2.2.1.keep hk hn, h.2.2.2⟩
theorem At.old {w w' : World} {b m n : Nat} {E G : Prs} (h : At w b m n E G) (hk : Keeps (fun _ => False) w w') : At w' b m n E G := h.keep hk (fun x => x) (fun x => x) (fun x => x)
theorem At.cells {w : World} {b m n : Nat} {E G : Prs} (h : At w b m n E G) : w.cell? ⟨b, 0, none⟩ = some (.map (some m)) ∧ w.cell? ⟨b, 1, none⟩ = some (.map (some n)) := ⟨cell_of h.1 0 rfl, cell_of h.1 1 rfl⟩
theorem At.lt {w : World} {b m n : Nat} {E G : Prs} (h : At w b m n E G) : b < w.heap.size ∧ m < w.heap.size ∧ n < w.heap.size := ⟨lt_of h.1, h.2.1.lt, h.2.2.1.lt⟩

def fnd (E : Prs) (k : Int) : Int := (eget E k).getD (-1)

set_option maxRecDepth 100000 in
set_option maxHeartbeats 400000 in
theorem look_any (w : World) (m : Nat) (E : Prs) (k : Int) (h : EMap (Value.int .i64) w m E) :
    Calls Tryz.prog 104 #[.map (some m), .int .i64 k] w fun e w' => e = .returned (.int .i64 (fnd E k)) ∧ w = w' := by
  have hl := h.look_ok (P := Tryz.prog) _ Tryz.underlying168 Tryz.underlying3 k (z := 0) (zero_int _)
  unfold fnd
  clear h
  cases hE : eget E k with
  | none =>
    rw [hE] at hl
    simp only [Option.getD_none, Option.isSome_none] at hl ⊢
    clear hE
    go_enter Tryz.func104, Tryz.ntmps104
    go_wp2
    go_ret
    exact ⟨rfl, rfl⟩
  | some x =>
    rw [hE] at hl
    simp only [Option.getD_some, Option.isSome_some] at hl ⊢
    clear hE
    go_enter Tryz.func104, Tryz.ntmps104
    go_wp2
    go_ret
    exact ⟨rfl, rfl⟩
set_option maxRecDepth 100000 in
set_option maxHeartbeats 400000 in
theorem find_any (w : World) (b m n : Nat) (E G : Prs) (k : Int) (h : At w b m n E G) :
    Calls Tryz.prog 28 #[.pointer (some ⟨b, 0, none⟩), .int .i64 k] w fun e w' => e = .returned (.int .i64 (fnd E k)) ∧ w = w' := by
  obtain ⟨c0, c1⟩ := h.cells
  have hc := look_any w m E k h.2.1
  clear h
  go_enter Tryz.func28, Tryz.ntmps28
  go_wp2_with fail
  refine hc.mono ?_
  rintro e w' ⟨rfl, rfl⟩
  go_wp2
  go_ret
  exact ⟨rfl, rfl⟩
set_option maxRecDepth 100000 in
set_option maxHeartbeats 400000 in
theorem holder_any (w : World) (b m n : Nat) (E G : Prs) (k : Int) (h : At w b m n E G) :
    Calls Tryz.prog 227 #[.pointer (some ⟨b, 0, none⟩), .int .i64 k] w fun e w' => e = .returned (.int .i64 (fnd G k)) ∧ w = w' := by
  obtain ⟨c0, c1⟩ := h.cells
  have hc := look_any w n G k h.2.2.1
  clear h
  go_enter Tryz.func227, Tryz.ntmps227
  go_wp2_with fail
  refine hc.mono ?_
  rintro e w' ⟨rfl, rfl⟩
  go_wp2
  go_ret
  exact ⟨rfl, rfl⟩
set_option maxRecDepth 100000 in
set_option maxHeartbeats 400000 in
theorem len_any (w : World) (b m n : Nat) (E G : Prs) (h : At w b m n E G) :
    Calls Tryz.prog 100 #[.pointer (some ⟨b, 0, none⟩)] w fun e w' => e = .returned (.int .i64 E.length) ∧ w = w' := by
  obtain ⟨c0, c1⟩ := h.cells
  have hl := h.2.1.len (P := Tryz.prog) (ty := 3) Tryz.underlying168
  clear h
  go_enter Tryz.func100, Tryz.ntmps100
  go_wp2
  go_ret
  exact ⟨rfl, rfl⟩
set_option maxRecDepth 100000 in
set_option maxHeartbeats 400000 in
theorem new_any (w : World) : Calls Tryz.prog 177 #[] w fun e w' => ∃ b m n, e = .returned (.pointer (some ⟨b, 0, none⟩)) ∧ At w' b m n [] [] ∧ w.heap.size ≤ b ∧ w.heap.size ≤ m ∧ w.heap.size ≤ n ∧ Keeps (fun _ => False) w w' := by
  have hmm := @run_makeMap Tryz.prog
  go_enter Tryz.func177, Tryz.ntmps177
  go_wp2
  go_ret
  refine ⟨_, w.heap.size, w.heap.size + 1, rfl, ⟨?_, ?_, ?_, by omega, by omega, by omega⟩, by omega, by omega, by omega, (((Keeps.refl _ _).alloc _).alloc _).alloc _⟩
  · exact alloc_at _ _ _ (by simp)
  · exact ((EMap.new _ w).alloc _).alloc _
  · have := EMap.new (Value.int .i64) (w.alloc (.map #[] 0))
    simp only [World.size_alloc] at this
    exact this.alloc _

set_option maxRecDepth 100000 in
set_option maxHeartbeats 4000000 in
theorem put_any (w : World) (b m n : Nat) (E G : Prs) (v p : Int) (h : At w b m n E G) :
    Calls Tryz.prog 228 #[.pointer (some ⟨b, 0, none⟩), .int .i64 v, .int .i64 p] w fun e w' => e = .returned (.tuple #[]) ∧ At w' b m n (eset E v p) (eset G p v) ∧ Keeps (fun x => x = m ∨ x = n) w w' := by
  have hb := h.1
  have hbm := h.2.2.2.1
  have hbn := h.2.2.2.2.1
  have hmn := h.2.2.2.2.2
  have hlt := h.lt
  have c0 := cell_of hb 0 rfl
  have c1 := cell_of hb 1 rfl
  obtain ⟨z1, s1, w1, w2, he1, k1, hs1, hE, k2⟩ := h.2.1.drew.entry (P := Tryz.prog) _ Tryz.underlying168 Tryz.underlying3 v (zero_int _) p
  have hG2 : EMap (Value.int .i64) w2 n G := h.2.2.1.drew.keep k2 (fun e => hmn e.symm)
  obtain ⟨z2, s2, w3, w4, he2, k3, hs2, hG, k4⟩ := hG2.entry (P := Tryz.prog) _ Tryz.underlying168 Tryz.underlying3 p (zero_int _) v
  have c11 := cell_of (k1.at (a := w.drew) hb hbm) 1 rfl
  have c12 := cell_of (k2.at (a := w.drew) hb hbm) 1 rfl
  have hfin : At w4 b m n (eset E v p) (eset G p v) ∧ Keeps (fun x => x = m ∨ x = n) w w4 :=
    ⟨⟨k4.at (k2.at (a := w.drew) hb hbm) hbn, hE.keep k4 hmn, hG, hbm, hbn, hmn⟩, (k2.of_drew.mono (fun x _ e => .inl e)).trans (k4.mono (fun x _ e => .inr e))⟩
  have HF := Hid.of hfin
  clear hfin hE hG2 hG k1 k2 k3 k4 hb h hlt hbm hbn hmn
  go_enter Tryz.func228, Tryz.ntmps228
  go_wp2
  go_region
  all_goals (try go_wp2)
  all_goals (go_end0; exact ⟨rfl, HF.out⟩)
end Tab
end Go.Proofs.YtnheibcjcgacpaaGreatDoor

/-! The table package's walks, second part: Map, Unmap, Swap; all calls at nil. -/
namespace Go.Proofs.YtnheibcjcgacpaaGreatDoor
open Go.RowKit Go.ChangeMaps
namespace Tab
/-- May this pair be mapped? -/
def mapE (E G : Prs) (v p : Int) : Int := if v < 256 ∨ 6400 ≤ v ∨ p < 0 ∨ 1048576 < p then 12 else if 0 ≤ fnd E v ∨ 0 ≤ fnd G p then 7 else 0
/-- What a table is behind Map, Unmap, Swap. -/
def mapS (E G : Prs) (v p : Int) : Prs × Prs := if mapE E G v p = 0 then (eset E v p, eset G p v) else (E, G)
def unE (E : Prs) (v : Int) : Int × Int := if fnd E v < 0 then (0, 13) else (fnd E v, 0)
def unS (E G : Prs) (v : Int) : Prs × Prs := if fnd E v < 0 then (E, G) else (edel E v, edel G (fnd E v))
def swE (E G : Prs) (v p : Int) : Int × Int := if p < 0 ∨ 1048576 < p then (0, 12) else if fnd E v < 0 then (0, 13) else if 0 ≤ fnd G p then (0, 7) else (fnd E v, 0)
def swS (E G : Prs) (v p : Int) : Prs × Prs := if (swE E G v p).2 = 0 then (eset E v p, eset (edel G (fnd E v)) p v) else (E, G)

set_option maxRecDepth 100000 in
set_option maxHeartbeats 4000000 in
theorem map_any (w : World) (b m n : Nat) (E G : Prs) (v p : Int) (h : At w b m n E G) :
    Calls Tryz.prog 181 #[.pointer (some ⟨b, 0, none⟩), .int .i64 v, .int .i64 p] w fun e w' => e = .returned (.int .i64 (mapE E G v p)) ∧ At w' b m n (mapS E G v p).1 (mapS E G v p).2 ∧ Keeps (fun x => x = m ∨ x = n) w w' := by
  by_cases hbad : v < 256 ∨ 6400 ≤ v ∨ p < 0 ∨ 1048576 < p
  · have he : mapE E G v p = 12 := by unfold mapE; rw [if_pos hbad]
    have hs : mapS E G v p = (E, G) := by unfold mapS; rw [he]; rfl
    rw [he, hs]
    have HF := Hid.of h
    clear he hs h
    have hbad' : v < 256 ∨ (256 ≤ v ∧ 6400 ≤ v) ∨ (256 ≤ v ∧ v < 6400 ∧ p < 0) ∨ (256 ≤ v ∧ v < 6400 ∧ 0 ≤ p ∧ 1048576 < p) := by omega
    clear hbad
    rcases hbad' with h1 | ⟨h1, h2⟩ | ⟨h1, h2, h3⟩ | ⟨h1, h2, h3, h4⟩
    all_goals
      go_enter Tryz.func181, Tryz.ntmps181
      go_wp2
      go_ret
      exact ⟨rfl, HF.out, Keeps.refl _ _⟩
  · have g1 : 256 ≤ v := by omega
    have g2 : v < 6400 := by omega
    have g3 : 0 ≤ p := by omega
    have g4 : p ≤ 1048576 := by omega
    by_cases h1 : 0 ≤ fnd E v
    · have he : mapE E G v p = 7 := by unfold mapE; rw [if_neg hbad, if_pos (.inl h1)]
      have hs : mapS E G v p = (E, G) := by unfold mapS; rw [he]; rfl
      rw [he, hs]
      have q1 := find_any w b m n E G v h
      have HF := Hid.of h
      clear he hs h hbad
      generalize fnd E v = x at *
      go_enter Tryz.func181, Tryz.ntmps181
      go_wp2_with fail
      refine q1.mono ?_
      rintro e w1 ⟨rfl, rfl⟩
      go_wp2
      go_ret
      exact ⟨rfl, HF.out, Keeps.refl _ _⟩
    · by_cases h2 : 0 ≤ fnd G p
      · have he : mapE E G v p = 7 := by unfold mapE; rw [if_neg hbad, if_pos (.inr h2)]
        have hs : mapS E G v p = (E, G) := by unfold mapS; rw [he]; rfl
        rw [he, hs]
        have q1 := find_any w b m n E G v h
        have q2 := holder_any w b m n E G p h
        have HF := Hid.of h
        clear he hs h hbad
        generalize fnd E v = x at *
        generalize fnd G p = y at *
        go_enter Tryz.func181, Tryz.ntmps181
        go_wp2_with fail
        refine q1.mono ?_
        rintro e w1 ⟨rfl, rfl⟩
        go_wp2_with fail
        refine q2.mono ?_
        rintro e w1 ⟨rfl, rfl⟩
        go_wp2
        go_ret
        exact ⟨rfl, HF.out, Keeps.refl _ _⟩
      · have he : mapE E G v p = 0 := by unfold mapE; rw [if_neg hbad, if_neg (by omega)]
        have hs : mapS E G v p = (eset E v p, eset G p v) := by unfold mapS; rw [if_pos he]
        rw [he, hs]
        have q1 := find_any w b m n E G v h
        have q2 := holder_any w b m n E G p h
        have q3 := put_any w b m n E G v p h
        clear he hs h hbad
        generalize fnd E v = x at *
        generalize fnd G p = y at *
        go_enter Tryz.func181, Tryz.ntmps181
        go_wp2_with fail
        refine q1.mono ?_
        rintro e w1 ⟨rfl, rfl⟩
        go_wp2_with fail
        refine q2.mono ?_
        rintro e w1 ⟨rfl, rfl⟩
        go_wp2_with fail
        refine q3.mono ?_
        rintro e w1 ⟨rfl, hA, hK⟩
        have HF := Hid.of (And.intro hA hK)
        clear hA hK
        go_wp2
        go_ret
        exact ⟨rfl, HF.out⟩

set_option maxRecDepth 100000 in
set_option maxHeartbeats 4000000 in
theorem unmap_any (w : World) (b m n : Nat) (E G : Prs) (v : Int) (h : At w b m n E G) :
    Calls Tryz.prog 200 #[.pointer (some ⟨b, 0, none⟩), .int .i64 v] w fun e w' => e = .returned (.tuple #[.int .i64 (unE E v).1, .int .i64 (unE E v).2]) ∧ At w' b m n (unS E G v).1 (unS E G v).2 ∧ Keeps (fun x => x = m ∨ x = n) w w' := by
  have q1 := find_any w b m n E G v h
  by_cases h1 : fnd E v < 0
  · have he : unE E v = (0, 13) := by unfold unE; rw [if_pos h1]
    have hs : unS E G v = (E, G) := by unfold unS; rw [if_pos h1]
    rw [he, hs]
    have HF := Hid.of h
    clear he hs h
    generalize fnd E v = x at *
    go_enter Tryz.func200, Tryz.ntmps200
    go_wp2_with fail
    refine q1.mono ?_
    rintro e w1 ⟨rfl, rfl⟩
    go_wp2
    go_ret2
    exact ⟨rfl, HF.out, Keeps.refl _ _⟩
  · have he : unE E v = (fnd E v, 0) := by unfold unE; rw [if_neg h1]
    have hs : unS E G v = (edel E v, edel G (fnd E v)) := by unfold unS; rw [if_neg h1]
    rw [he, hs]
    have hb := h.1
    obtain ⟨hbm, hbn, hmn⟩ := h.2.2.2
    have c0 := cell_of hb 0 rfl
    generalize fnd E v = x at *
    obtain ⟨w1, hd1, hE, k1⟩ := h.2.1.del (P := Tryz.prog) (ty := 0) _ Tryz.underlying168 Tryz.underlying3 v
    have hG1 := h.2.2.1.keep k1 (fun e => hmn e.symm)
    have c11 := cell_of (k1.at hb hbm) 1 rfl
    obtain ⟨w2, hd2, hG, k2⟩ := hG1.del (P := Tryz.prog) (ty := 0) _ Tryz.underlying168 Tryz.underlying3 x
    have hfin : At w2 b m n (edel E v) (edel G x) ∧ Keeps (fun x => x = m ∨ x = n) w w2 :=
      ⟨⟨k2.at (k1.at hb hbm) hbn, hE.keep k2 hmn, hG, hbm, hbn, hmn⟩, (k1.mono (fun x _ e => .inl e)).trans (k2.mono (fun x _ e => .inr e))⟩
    have HF := Hid.of hfin
    clear hfin hE hG1 hG k1 k2 hb h hbm hbn hmn he hs
    go_enter Tryz.func200, Tryz.ntmps200
    go_wp2_with fail
    refine q1.mono ?_
    rintro e w3 ⟨rfl, rfl⟩
    go_wp2
    go_ret2
    exact ⟨rfl, HF.out⟩

set_option maxRecDepth 100000 in
set_option maxHeartbeats 4000000 in
theorem swap_any (w : World) (b m n : Nat) (E G : Prs) (v p : Int) (h : At w b m n E G) :
    Calls Tryz.prog 132 #[.pointer (some ⟨b, 0, none⟩), .int .i64 v, .int .i64 p] w fun e w' => e = .returned (.tuple #[.int .i64 (swE E G v p).1, .int .i64 (swE E G v p).2]) ∧ At w' b m n (swS E G v p).1 (swS E G v p).2 ∧ Keeps (fun x => x = m ∨ x = n) w w' := by
  have q1 := find_any w b m n E G v h
  by_cases hbad : p < 0 ∨ 1048576 < p
  · have he : swE E G v p = (0, 12) := by unfold swE; rw [if_pos hbad]
    have hs : swS E G v p = (E, G) := by unfold swS; rw [he]; rfl
    rw [he, hs]
    have HF := Hid.of h
    clear he hs h
    generalize fnd E v = x at *
    have hbad' : p < 0 ∨ (0 ≤ p ∧ 1048576 < p) := by omega
    clear hbad
    rcases hbad' with h1 | ⟨h1, h2⟩
    all_goals
      go_enter Tryz.func132, Tryz.ntmps132
      go_wp2_with fail
      refine q1.mono ?_
      rintro e w1 ⟨rfl, rfl⟩
      go_wp2
      go_ret2
      exact ⟨rfl, HF.out, Keeps.refl _ _⟩
  · have g3 : 0 ≤ p := by omega
    have g4 : p ≤ 1048576 := by omega
    by_cases h1 : fnd E v < 0
    · have he : swE E G v p = (0, 13) := by unfold swE; rw [if_neg hbad, if_pos h1]
      have hs : swS E G v p = (E, G) := by unfold swS; rw [he]; rfl
      rw [he, hs]
      have HF := Hid.of h
      clear he hs h hbad
      generalize fnd E v = x at *
      go_enter Tryz.func132, Tryz.ntmps132
      go_wp2_with fail
      refine q1.mono ?_
      rintro e w1 ⟨rfl, rfl⟩
      go_wp2
      go_ret2
      exact ⟨rfl, HF.out, Keeps.refl _ _⟩
    · have q2 := holder_any w b m n E G p h
      by_cases h2 : 0 ≤ fnd G p
      · have he : swE E G v p = (0, 7) := by unfold swE; rw [if_neg hbad, if_neg h1, if_pos h2]
        have hs : swS E G v p = (E, G) := by unfold swS; rw [he]; rfl
        rw [he, hs]
        have HF := Hid.of h
        clear he hs h hbad
        generalize fnd E v = x at *
        generalize fnd G p = y at *
        go_enter Tryz.func132, Tryz.ntmps132
        go_wp2_with fail
        refine q1.mono ?_
        rintro e w1 ⟨rfl, rfl⟩
        go_wp2_with fail
        refine q2.mono ?_
        rintro e w1 ⟨rfl, rfl⟩
        go_wp2
        go_ret2
        exact ⟨rfl, HF.out, Keeps.refl _ _⟩
      · have he : swE E G v p = (fnd E v, 0) := by unfold swE; rw [if_neg hbad, if_neg h1, if_neg h2]
        have hs : swS E G v p = (eset E v p, eset (edel G (fnd E v)) p v) := by unfold swS; rw [if_pos (by rw [he])]
        rw [he, hs]
        have hb := h.1
        obtain ⟨hbm, hbn, hmn⟩ := h.2.2.2
        have c1 := cell_of hb 1 rfl
        generalize fnd E v = x at *
        generalize fnd G p = y at *
        obtain ⟨w1, hd1, hG, k1⟩ := h.2.2.1.del (P := Tryz.prog) (ty := 0) _ Tryz.underlying168 Tryz.underlying3 x
        have h1' : At w1 b m n E (edel G x) := ⟨k1.at hb hbn, h.2.1.keep k1 hmn, hG, hbm, hbn, hmn⟩
        have q3 := put_any w1 b m n E (edel G x) v p h1'
        have k1' : Keeps (fun x => x = m ∨ x = n) w w1 := k1.mono (fun x _ e => .inr e)
        clear he hs hbad h hG h1' hb hbm hbn hmn k1
        go_enter Tryz.func132, Tryz.ntmps132
        go_wp2_with fail
        refine q1.mono ?_
        rintro e w2 ⟨rfl, rfl⟩
        go_wp2_with fail
        refine q2.mono ?_
        rintro e w2 ⟨rfl, rfl⟩
        go_wp2_with fail
        refine q3.mono ?_
        rintro e w2 ⟨rfl, hA, hK⟩
        have HF := Hid.of (And.intro hA (k1'.trans hK))
        clear hA hK
        go_wp2
        go_ret2
        exact ⟨rfl, HF.out⟩
end Tab
end Go.Proofs.YtnheibcjcgacpaaGreatDoor

/-! The table package's walks, third part: Pieces, with place.At and place.Within; garthref01.Same. -/
namespace Go.Proofs.YtnheibcjcgacpaaGreatDoor
open Go.RowKit Go.ChangeMaps

theorem run_fl_int (w : World) (p : Int) (h : p.natAbs < 2 ^ 53) : (convert 279 3 (.float .f64 (fl p))).run Tryz.prog w = .ok (.int .i64 p) w := by
  have e1 := toInt_fl p h
  have e2 : IntKind.i64.min ≤ p ∧ p ≤ IntKind.i64.max := by
    have a1 : IntKind.i64.min = -9223372036854775808 := rfl
    have a2 : IntKind.i64.max = 9223372036854775807 := rfl
    omega
  simp [convert, run_underlying Tryz.underlying279, run_underlying Tryz.underlying3, Conv.floatToInt, e1, e2]
  intro h; omega

namespace Tab
theorem tmod_eq (a : Int) (h : 0 ≤ a) : a.tmod 512 = a % 512 := Int.tmod_eq_emod_of_nonneg h
theorem tdiv_eq (a : Int) (h : 0 ≤ a) : a.tdiv 512 = a / 512 := Int.tdiv_eq_ediv_of_nonneg h
set_option maxRecDepth 100000 in
set_option maxHeartbeats 400000 in
theorem at_any (w : World) (a : Int) (h1 : 131072 ≤ a) (h2 : a < 3276800) :
    Calls Tryz.prog 276 #[.int .i64 a] w fun e w' => e = .returned (.tuple #[.complex .f64 (fl (a / 512)) (fl (a % 512)), .int .i64 0]) ∧ w = w' := by
  have e1 := tmod_eq a (by omega)
  have e2 := tdiv_eq a (by omega)
  have g1 : 0 ≤ a := by omega
  go_enter Tryz.func276, Tryz.ntmps276
  go_wp2
  go_ret2
  rw [← e1, ← e2]
  exact ⟨rfl, rfl⟩
def within (a n : Int) : Bool := decide (0 ≤ n ∧ 131072 ≤ a ∧ a + n ≤ 3276800)
set_option maxRecDepth 100000 in
set_option maxHeartbeats 400000 in
theorem within_any (w : World) (a n : Int) :
    Calls Tryz.prog 275 #[.int .i64 a, .int .i64 n] w fun e w' => e = .returned (.bool (within a n)) ∧ w = w' := by
  unfold within
  have hsp : n < 0 ∨ (0 ≤ n ∧ a < 131072) ∨ (0 ≤ n ∧ 131072 ≤ a ∧ 3276800 < a) ∨ (0 ≤ n ∧ 131072 ≤ a ∧ a ≤ 3276800 ∧ 3276800 - a < n) ∨ (0 ≤ n ∧ 131072 ≤ a ∧ a ≤ 3276800 ∧ n ≤ 3276800 - a) := by omega
  rcases hsp with h1 | ⟨h1, h2⟩ | ⟨h1, h2, h3⟩ | ⟨h1, h2, h3, h4⟩ | ⟨h1, h2, h3, h4⟩
  case inr.inr.inr.inr =>
    have hd : decide (0 ≤ n ∧ 131072 ≤ a ∧ a + n ≤ 3276800) = true := by simp; omega
    rw [hd]
    go_enter Tryz.func275, Tryz.ntmps275
    go_wp2
    go_ret
    exact ⟨rfl, rfl⟩
  all_goals
    have hd : decide (0 ≤ n ∧ 131072 ≤ a ∧ a + n ≤ 3276800) = false := by simp; omega
    have hd' : decide (n ≤ 3276800 - a) = decide (n ≤ 3276800 - a) := rfl
    rw [hd]
    go_enter Tryz.func275, Tryz.ntmps275
    go_wp2
    go_ret
    first | exact ⟨rfl, rfl⟩ | exact ⟨congrArg (fun b => Ending.returned (.bool b)) (by simp; omega), rfl⟩
end Tab
end Go.Proofs.YtnheibcjcgacpaaGreatDoor

/-! The plain law of the table: pairs, there and back. No program in sight. -/
namespace Go.Proofs.YtnheibcjcgacpaaGreatDoor
namespace Tab
structure Inv (E G : Prs) : Prop where
  ab : ∀ v p, eget E v = some p → eget G p = some v ∧ 256 ≤ v ∧ v < 6400 ∧ 0 ≤ p ∧ p ≤ 1048576
  ba : ∀ p v, eget G p = some v → eget E v = some p
  ke : (keysOf E).Nodup
  kg : (keysOf G).Nodup
theorem Inv.nil : Inv [] [] := ⟨fun v p h => by simp [eget_nil] at h, fun v p h => by simp [eget_nil] at h, by simp [keysOf], by simp [keysOf]⟩
theorem fnd_none {E : Prs} {k : Int} (h : eget E k = none) : fnd E k = -1 := by unfold fnd; rw [h]; rfl
theorem fnd_some {E : Prs} {k p : Int} (h : eget E k = some p) : fnd E k = p := by unfold fnd; rw [h]; rfl
theorem Inv.le {E G : Prs} (h : Inv E G) (k : Int) : fnd E k ≤ 1048576 := by
  cases e : eget E k with
  | none => rw [fnd_none e]; omega
  | some p => rw [fnd_some e]; exact (h.ab _ _ e).2.2.2.2
theorem Inv.neg {E G : Prs} (h : Inv E G) {k : Int} (hk : fnd E k < 0) : eget E k = none := by
  cases e : eget E k with
  | none => rfl
  | some p => rw [fnd_some e] at hk; have := h.ab _ _ e; omega
theorem Inv.get {E G : Prs} (h : Inv E G) {k : Int} (hk : ¬ fnd E k < 0) : eget E k = some (fnd E k) := by
  cases e : eget E k with
  | none => rw [fnd_none e] at hk; omega
  | some p => rw [fnd_some e]
theorem Inv.negG {E G : Prs} (h : Inv E G) {k : Int} (hk : fnd G k < 0) : eget G k = none := by
  cases e : eget G k with
  | none => rfl
  | some p => rw [fnd_some e] at hk; have := h.ab _ _ (h.ba _ _ e); omega
theorem Inv.set {E G : Prs} (h : Inv E G) {v p : Int} (hv : eget E v = none) (hp : eget G p = none) (h1 : 256 ≤ v) (h2 : v < 6400) (h3 : 0 ≤ p) (h4 : p ≤ 1048576) : Inv (eset E v p) (eset G p v) := by
  refine ⟨fun a b hab => ?_, fun b a hab => ?_, nodup_eset h.ke _ _, nodup_eset h.kg _ _⟩
  · rw [eget_eset] at hab ⊢
    by_cases e : a = v
    · subst e
      rw [if_pos rfl] at hab; cases hab
      rw [if_pos rfl]; exact ⟨rfl, h1, h2, h3, h4⟩
    · rw [if_neg e] at hab
      have := h.ab _ _ hab
      by_cases e2 : b = p
      · subst e2; rw [hp] at this; simp at this
      · rw [if_neg e2]; exact this
  · rw [eget_eset] at hab ⊢
    by_cases e : b = p
    · subst e
      rw [if_pos rfl] at hab; cases hab
      rw [if_pos rfl]
    · rw [if_neg e] at hab
      have := h.ba _ _ hab
      by_cases e2 : a = v
      · subst e2; rw [hv] at this; simp at this
      · rw [if_neg e2]; exact this
theorem Inv.del {E G : Prs} (h : Inv E G) {v p : Int} (hv : eget E v = some p) : Inv (edel E v) (edel G p) := by
  refine ⟨fun a b hab => ?_, fun b a hab => ?_, nodup_edel h.ke _, nodup_edel h.kg _⟩
  · rw [eget_edel] at hab ⊢
    by_cases e : a = v
    · rw [if_pos e] at hab; simp at hab
    · rw [if_neg e] at hab
      have h1 := h.ab _ _ hab
      by_cases e2 : b = p
      · subst e2
        have h2 := (h.ab _ _ hv).1
        rw [h1.1] at h2; cases h2; exact absurd rfl e
      · rw [if_neg e2]; exact h1
  · rw [eget_edel] at hab ⊢
    by_cases e : b = p
    · rw [if_pos e] at hab; simp at hab
    · rw [if_neg e] at hab
      have h1 := h.ba _ _ hab
      by_cases e2 : a = v
      · subst e2; rw [hv] at h1; cases h1; exact absurd rfl e
      · rw [if_neg e2]; exact h1
theorem Inv.map {E G : Prs} (h : Inv E G) (v p : Int) : Inv (mapS E G v p).1 (mapS E G v p).2 := by
  unfold mapS
  split
  · rename_i hz
    unfold mapE at hz
    split at hz
    · omega
    · split at hz
      · omega
      · exact h.set (h.neg (by omega)) (h.negG (by omega)) (by omega) (by omega) (by omega) (by omega)
  · exact h
theorem Inv.un {E G : Prs} (h : Inv E G) (v : Int) : Inv (unS E G v).1 (unS E G v).2 := by
  unfold unS
  split
  · exact h
  · rename_i hv; exact h.del (h.get hv)
theorem edel_none {E : Prs} {v : Int} (hv : eget E v = none) : edel E v = E := by
  unfold edel
  rw [List.filter_eq_self]
  intro x hx
  cases e : (x.1 == v) with
  | false => rfl
  | true =>
    have : (E.find? (fun p => p.1 == v)).isSome = true := List.find?_isSome.2 ⟨x, hx, e⟩
    rw [← eget_isSome, hv] at this; simp at this
theorem eset_none {E : Prs} {v p : Int} (hv : eget E v = none) : eset E v p = E ++ [(v, p)] := by
  unfold eset
  rw [← eget_isSome, hv]; rfl
theorem eset_some {E : Prs} {v p q : Int} (hv : eget E v = some q) : edel (eset E v p) v = edel E v := by
  unfold eset
  rw [← eget_isSome, hv]
  simp only [Option.isSome_some, if_true]
  unfold edel
  rw [List.filter_map]
  rw [List.map_congr_left (g := id)]
  · rw [List.map_id]
    congr 1
    funext x
    simp only [Function.comp]
    split
    · rename_i e; simp [e]
    · rfl
  · intro x hx
    simp only [List.mem_filter, Function.comp] at hx
    have hx := hx.2
    split
    · rename_i e; rw [if_pos e] at hx; simp at hx
    · rfl
theorem edel_eset {E : Prs} {v p : Int} (hv : eget E v = none) : edel (eset E v p) v = E := by
  rw [eset_none hv]
  unfold edel
  rw [List.filter_append]
  have : (E.filter fun p => !(p.1 == v)) = E := edel_none hv
  rw [this]; simp
theorem Inv.sw {E G : Prs} (h : Inv E G) (v p : Int) : Inv (swS E G v p).1 (swS E G v p).2 := by
  unfold swS
  split
  · rename_i hz
    unfold swE at hz
    split at hz
    · simp at hz
    · split at hz
      · simp at hz
      · split at hz
        · simp at hz
        · rename_i h1 h2 h3
          have hv := h.get h2
          have hb := h.ab _ _ hv
          have hd := h.del hv
          have hp := h.negG (k := p) (by omega)
          have hp' : eget (edel G (fnd E v)) p = none := by rw [eget_edel]; split; { rfl }; exact hp
          have := hd.set (v := v) (p := p) (by rw [eget_edel, if_pos rfl]) hp' hb.2.1 hb.2.2.1 (by omega) (by omega)
          refine ⟨fun a b hab => ?_, fun b a hab => ?_, nodup_eset h.ke _ _, this.kg⟩
          · refine this.ab a b ?_
            rw [eget_eset] at hab ⊢
            rw [eget_edel]
            by_cases e : a = v
            · rw [if_pos e] at hab ⊢; exact hab
            · rw [if_neg e] at hab ⊢; rw [if_neg e]; exact hab
          · have h5 := this.ba b a hab
            rw [eget_eset] at h5 ⊢
            rw [eget_edel] at h5
            by_cases e : a = v
            · rw [if_pos e] at h5 ⊢; exact h5
            · rw [if_neg e] at h5 ⊢; rw [if_neg e] at h5; exact h5
  · exact h
end Tab
end Go.Proofs.YtnheibcjcgacpaaGreatDoor

/-! The table package's walks, fourth part: Pieces. -/
namespace Go.Proofs.YtnheibcjcgacpaaGreatDoor
open Go.RowKit Go.ChangeMaps
theorem run_min_int {P : Program} (ts : Array TypeId) (ty : TypeId) (x y : Int) (w : World) : (Builtin.min_ ts ty #[.int .i64 x, .int .i64 y]).run P w = .ok (.int .i64 (if y < x then y else x)) w := by
  simp [Builtin.min_, Builtin.min2]
namespace Tab
def least (n o : Int) : Int := if 512 - o < n then 512 - o else n
/-- The pieces of n bytes from a on. -/
def pcs (E : Prs) : Nat → Int → Int → Option (List Sp)
  | 0, _, _ => some []
  | f + 1, a, n => if n ≤ 0 then some [] else if fnd E (a / 512) < 0 then none else (pcs E f (a + least n (a % 512)) (n - least n (a % 512))).map (⟨fnd E (a / 512) * 512 + a % 512, least n (a % 512), false⟩ :: ·)
def pieces (E : Prs) (a n : Int) : Option (List Sp) := if within a n then pcs E n.toNat a n else none
def code (r : Option (List Sp)) : Int := if r.isSome then 0 else 4
/-- An own slice of spans. -/
def Out (B : Nat) (w : World) (v : Value) (L : List Sp) : Prop := Own w 61 3 v L.length (spans L) ∧ ∀ g, v.ownBlock = some g → B ≤ g
theorem Out.nil (B : Nat) (w : World) : Out B w (.slice none 0 0) [] := ⟨Own.nil _ _ _, by simp [Value.ownBlock]⟩

set_option maxRecDepth 100000 in
set_option maxHeartbeats 4000000 in
theorem pieces_any (w : World) (b m n : Nat) (E G : Prs) (a0 n0 : Int) (h : At w b m n E G) (hE : ∀ k, fnd E k ≤ 1048576) :
    Calls Tryz.prog 199 #[.pointer (some ⟨b, 0, none⟩), .int .i64 a0, .int .i64 n0] w fun e w' => ∃ v, e = .returned (.tuple #[v, .int .i64 (code (pieces E a0 n0))]) ∧ Out w.heap.size w' v ((pieces E a0 n0).getD []) ∧ Keeps (fun _ => False) w w' := by
  have q1 := within_any w a0 n0
  by_cases hw : within a0 n0 = true
  · have hp : pieces E a0 n0 = pcs E n0.toNat a0 n0 := by unfold pieces; rw [if_pos hw]
    obtain ⟨r, hr⟩ : ∃ r, pieces E a0 n0 = r := ⟨_, rfl⟩
    rw [hr]
    rw [hr] at hp
    have HR := Hid.of hp
    clear hp hr
    obtain ⟨g1, g2, g3⟩ : 0 ≤ n0 ∧ 131072 ≤ a0 ∧ a0 + n0 ≤ 3276800 := by unfold within at hw; simpa using hw
    go_enter Tryz.func199, Tryz.ntmps199
    go_wp2_with fail
    refine q1.mono ?_
    rintro e w1 ⟨rfl, rfl⟩
    go_wp2
    go_loopw [1, 2, 6] (fun i j l wr => ∃ (a n : Int) (f : Nat) (L : List Sp), i = .int .i64 a ∧ j = .int .i64 n ∧ Out w.heap.size wr l L ∧ Keeps (fun _ => False) w wr ∧ 131072 ≤ a ∧ 0 ≤ n ∧ a + n ≤ 3276800 ∧ (L.length : Int) ≤ a - a0 ∧ n ≤ f ∧ Hid (r = (pcs E f a n).map (L ++ ·))) (fun _ j _ _ => (intOf j).toNat)
    case atStart => exact ⟨a0, n0, n0.toNat, [], rfl, rfl, Out.nil _ _, Keeps.refl _ _, g2, g1, g3, by simp, by omega, by rw [HR.out]; cases pcs E n0.toNat a0 n0 <;> rfl⟩
    case round =>
      obtain ⟨a, n, f, L, rfl, rfl, ho, hk, p1, p2, p3, p4, p5, hr⟩ := hrel
      by_cases hn : 0 < n
      · have p6 : a < 3276800 := by omega
        obtain ⟨q, hq⟩ : ∃ q, a / 512 = q := ⟨_, rfl⟩
        obtain ⟨o, ho'⟩ : ∃ o, a % 512 = o := ⟨_, rfl⟩
        have c1 := at_any wr a p1 p6
        rw [hq, ho'] at c1
        have o1 : 0 ≤ o ∧ o < 512 := by omega
        have o2 : 256 ≤ q ∧ q < 6400 := by omega
        have v1 : ∀ w, (convert 279 3 (.float .f64 (fl q))).run Tryz.prog w = .ok (.int .i64 q) w := fun w => run_fl_int w q (by omega)
        have v2 : ∀ w, (convert 279 3 (.float .f64 (fl o))).run Tryz.prog w = .ok (.int .i64 o) w := fun w => run_fl_int w o (by omega)
        have h1 := h.old hk
        have c2 := find_any wr b _ _ E G q h1
        obtain ⟨f, rfl⟩ : ∃ f', f = f' + 1 := ⟨f - 1, by omega⟩
        have hE1 := hE q
        have hr' : r = (if fnd E q < 0 then none else (pcs E f (a + least n o) (n - least n o)).map (⟨fnd E q * 512 + o, least n o, false⟩ :: ·)).map (L ++ ·) := by
          rw [hr.out]; simp only [pcs, hq, ho', if_neg (show ¬ n ≤ 0 by omega)]
        clear hr h hE hq ho'
        generalize fnd E q = x at *
        by_cases hx : x < 0
        · obtain rfl : r = none := by rw [hr', if_pos hx]; rfl
          clear hr' h1
          go_wp2_with fail
          refine c1.mono ?_
          rintro e w2 ⟨rfl, rfl⟩
          go_wp2_with fail
          refine c2.mono ?_
          rintro e w2 ⟨rfl, rfl⟩
          go_wp2
          go_ret2
          exact ⟨_, rfl, Out.nil _ _, hk⟩
        · rw [if_neg hx] at hr'
          have m1 : ∀ (ts : Array TypeId) (ty : TypeId) (w : World), (Builtin.min_ ts ty #[.int .i64 n, .int .i64 (512 - o)]).run Tryz.prog w = .ok (.int .i64 (least n o)) w := fun ts ty w => run_min_int ts ty _ _ w
          have m2 : 1 ≤ least n o ∧ least n o ≤ n ∧ least n o ≤ 512 - o := by unfold least; split <;> omega
          generalize least n o = k at *
          have HR' := Hid.of hr'
          clear hr' h1
          have hsz := hk.size
          go_wp2_with fail
          refine c1.mono ?_
          rintro e w2 ⟨rfl, rfl⟩
          go_wp2_with fail
          refine c2.mono ?_
          rintro e w2 ⟨rfl, rfl⟩
          go_wp2_with (at_builtin; refine wpList_app1 slSpans wr rfl _ _ rfl u6 L.length (spans L) rfl ho.1 [.int .i64 (x * 512 + o), .int .i64 k, .bool false] rfl rfl (by simp [Value.oneCell']) (by unfold maxLen; omega) (by omega) ?_; intro v' w2 o2 k2 hat2)
          go_roundw
          case rel =>
            refine ⟨a + k, n - k, f, L ++ [⟨x * 512 + o, k, false⟩], by go_num, by go_num, ⟨?_, ?_⟩, hk.trans' k2 (fun g hg _ => ?_), by omega, by omega, by omega, by simp; omega, by omega, ?_⟩
            · rw [spans_append, List.length_append]; exact o2
            · intro g hg
              rcases hat2 with e | e
              · exact ho.2 g (by rw [← e]; exact hg)
              · rw [e] at hg; cases hg; omega
            · have := ho.2 g hg; omega
            · refine Hid.of ?_
              rw [HR'.out, Option.map_map]
              congr 1
              funext l
              simp
          case measure => simp [intOf]; omega
      · have hn0 : n ≤ 0 := by omega
        have hrr : r = some L := by
          rw [hr.out]
          cases f with
          | zero => simp [pcs]
          | succ f => simp [pcs, hn0]
        subst hrr
        go_wp2
        go_ret2
        exact ⟨_, rfl, ho, hk⟩
  · have hp : pieces E a0 n0 = none := by unfold pieces; rw [if_neg hw]
    rw [hp]
    have hw' : within a0 n0 = false := by simpa using hw
    rw [hw'] at q1
    clear h hE hw hw' hp
    go_enter Tryz.func199, Tryz.ntmps199
    go_wp2_with fail
    refine q1.mono ?_
    rintro e w1 ⟨rfl, rfl⟩
    go_wp2
    go_ret2
    exact ⟨_, rfl, Out.nil _ _, Keeps.refl _ _⟩
end Tab
end Go.Proofs.YtnheibcjcgacpaaGreatDoor

/-! The table: garthlaw15.awake, the invariant of its pairs. -/
namespace Go.Proofs.YtnheibcjcgacpaaGreatDoor
open Go.RowKit Go.ChangeMaps
namespace Tab
theorem Out.rd {B : Nat} {w : World} {v : Value} {L : List Sp} (h : Out B w v L) : ∃ A cap, v = .slice A L.length cap ∧ L.length ≤ cap ∧ (∀ ad, A = some ad → B ≤ ad.block ∧ ad.block < w.heap.size) ∧ Rd w A (spans L) := by
  obtain ⟨A, cap, hv, hc, hn, hr⟩ := h.1.shape
  refine ⟨A, cap, hv, hc, fun ad ha => ⟨h.2 _ (by rw [hv, ha]; rfl), h.1.lt (by rw [hv, ha]; rfl)⟩, fun j u hu => ?_⟩
  have hj : j < L.length * 3 := by
    rcases Nat.lt_or_ge j (L.length * 3) with h | h
    · exact h
    · rw [List.getElem?_eq_none (by rw [spans_length]; exact h)] at hu; simp at hu
  obtain ⟨g, hA, hg, he⟩ := hr j hj
  refine ⟨_, hA, ?_⟩
  rw [addr_add, Nat.zero_add, he]; exact hu
end Tab
end Go.Proofs.YtnheibcjcgacpaaGreatDoor

/-! A script's operations of the table; the table's calls under its invariant. -/
namespace Go.Proofs.YtnheibcjcgacpaaGreatDoor
open Go.RowKit Go.ChangeMaps
namespace Tab
structure TOp where
  kind : Int
  v : Int
  p : Int
def TOp.enc (o : TOp) : List Value := [.int .i64 o.kind, .int .i64 o.v, .int .i64 o.p]
theorem op_cells {w : World} {A : Option Addr} {xs : List TOp} (h : Rd w A (xs.flatMap TOp.enc)) (j : Nat) (hj : j < xs.length) :
    ∃ b o s x y z, A = some ⟨b, o, s⟩ ∧ w.cell? ((⟨b, o, s⟩ : Addr).add (j * 3)) = some (.int .i64 x) ∧ w.cell? ⟨((⟨b, o, s⟩ : Addr).add (j * 3)).block, ((⟨b, o, s⟩ : Addr).add (j * 3)).off + 1, none⟩ = some (.int .i64 y) ∧
      w.cell? ⟨((⟨b, o, s⟩ : Addr).add (j * 3)).block, ((⟨b, o, s⟩ : Addr).add (j * 3)).off + 2, none⟩ = some (.int .i64 z) := by
  have e := List.getElem?_eq_getElem hj
  have e0 := flatMap_get TOp.enc 3 (fun _ => rfl) xs j _ e 0 (by omega)
  have e1 := flatMap_get TOp.enc 3 (fun _ => rfl) xs j _ e 1 (by omega)
  have e2 := flatMap_get TOp.enc 3 (fun _ => rfl) xs j _ e 2 (by omega)
  obtain ⟨ad, rfl, h0⟩ := h _ _ e0
  obtain ⟨ad', ha, h1⟩ := h _ _ e1
  cases ha
  obtain ⟨ad', ha, h2⟩ := h _ _ e2
  cases ha
  exact ⟨ad.block, ad.off, ad.spot, _, _, _, rfl, h0, cell_field (by omega) h1, cell_field (by omega) h2⟩
/-- A table of pairs that go there and back; its blocks are from B on. -/
def Tb (B : Nat) (w : World) (b m n : Nat) (E G : Prs) : Prop := At w b m n E G ∧ Inv E G ∧ B ≤ b ∧ B ≤ m ∧ B ≤ n
theorem Tb.old {B : Nat} {w w' : World} {b m n : Nat} {E G : Prs} (h : Tb B w b m n E G) (k : Keeps (fun _ => False) w w') : Tb B w' b m n E G := ⟨h.1.old k, h.2⟩
theorem Tb.fresh {B : Nat} {w w' w0 : World} {b m n : Nat} {E G : Prs} (h : Tb B w b m n E G) (k0 : Keeps (fun _ => False) w0 w) (hB : w0.heap.size ≤ B) (k : Keeps (fun x => x = m ∨ x = n) w w') : Keeps (fun _ => False) w0 w' :=
  k0.trans' k (fun x hx hl => by have := h.2.2.2; omega)
theorem tb_map {B : Nat} {w : World} {b m n : Nat} {E G : Prs} (v p : Int) (h : Tb B w b m n E G) :
    Calls Tryz.prog 181 #[.pointer (some ⟨b, 0, none⟩), .int .i64 v, .int .i64 p] w fun e w' => e = .returned (.int .i64 (mapE E G v p)) ∧ Tb B w' b m n (mapS E G v p).1 (mapS E G v p).2 ∧ Keeps (fun x => x = m ∨ x = n) w w' :=
  (map_any w b m n E G v p h.1).mono fun e w' ⟨h1, h2, h3⟩ => ⟨h1, ⟨h2, h.2.1.map v p, h.2.2⟩, h3⟩
theorem tb_unmap {B : Nat} {w : World} {b m n : Nat} {E G : Prs} (v : Int) (h : Tb B w b m n E G) :
    Calls Tryz.prog 200 #[.pointer (some ⟨b, 0, none⟩), .int .i64 v] w fun e w' => e = .returned (.tuple #[.int .i64 (unE E v).1, .int .i64 (unE E v).2]) ∧ Tb B w' b m n (unS E G v).1 (unS E G v).2 ∧ Keeps (fun x => x = m ∨ x = n) w w' :=
  (unmap_any w b m n E G v h.1).mono fun e w' ⟨h1, h2, h3⟩ => ⟨h1, ⟨h2, h.2.1.un v, h.2.2⟩, h3⟩
theorem tb_swap {B : Nat} {w : World} {b m n : Nat} {E G : Prs} (v p : Int) (h : Tb B w b m n E G) :
    Calls Tryz.prog 132 #[.pointer (some ⟨b, 0, none⟩), .int .i64 v, .int .i64 p] w fun e w' => e = .returned (.tuple #[.int .i64 (swE E G v p).1, .int .i64 (swE E G v p).2]) ∧ Tb B w' b m n (swS E G v p).1 (swS E G v p).2 ∧ Keeps (fun x => x = m ∨ x = n) w w' :=
  (swap_any w b m n E G v p h.1).mono fun e w' ⟨h1, h2, h3⟩ => ⟨h1, ⟨h2, h.2.1.sw v p, h.2.2⟩, h3⟩
theorem tb_new (w : World) : Calls Tryz.prog 177 #[] w fun e w' => ∃ b m n, e = .returned (.pointer (some ⟨b, 0, none⟩)) ∧ Tb w.heap.size w' b m n [] [] ∧ Keeps (fun _ => False) w w' :=
  (new_any w).mono fun e w' ⟨b, m, n, h1, h2, h3, h4, h5, h6⟩ => ⟨b, m, n, h1, ⟨h2, Inv.nil, h3, h4, h5⟩, h6⟩

theorem eqI (x : Int) : (x == x) = true := by simp
theorem neI (x : Int) : (x != x) = false := by simp
end Tab
end Go.Proofs.YtnheibcjcgacpaaGreatDoor
