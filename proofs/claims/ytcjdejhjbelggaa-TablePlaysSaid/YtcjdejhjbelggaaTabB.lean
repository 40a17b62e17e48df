/- The table package's walks, second part: Map, Unmap, Swap; all calls at nil. -/
import Derived.Test.YtcjdejhjbelggaaTabA
set_option linter.unusedVariables false
set_option linter.unusedSimpArgs false
namespace Go.Proofs.Ytcjdejhjbelggaa
open Go.RowKit Go.ChangeMaps
namespace Tab
/-- May this pair be mapped? -/
def mapE (E G : Prs) (v p : Int) : Int := if v < 256 ∨ 6400 ≤ v ∨ p < 0 ∨ 1048576 < p then 12 else if 0 ≤ fnd E v ∨ 0 ≤ fnd G p then 7 else 0
/-- What a table is behind Map, Unmap, Swap. -/
def mapS (E G : Prs) (v p : Int) : Prs × Prs := if mapE E G v p = 0 then (eset E v p, eset G p v) else (E, G)
def unE (E : Prs) (v : Int) : Int × Int := if fnd E v < 0 then (0, 13) else (fnd E v, 0)
def unS (E G : Prs) (v : Int) : Prs × Prs := if fnd E v < 0 then (E, G) else (edel E v, edel G (fnd E v))
def swE (E G : Prs) (v p : Int) : Int × Int := if p < 0 ∨ 1048576 < p then (0, 12) else if fnd E v < 0 then (0, 13) else if 0 ≤ fnd G p then (0, 7) else (fnd E v, 0)
def swS (E G : Prs) (v p : Int) : Prs × Prs := if (swE E G v p).2 = 0 then (eset E v p, eset (edel G (fnd E v)) p v) else (E, G)

set_option maxRecDepth 100000 in
set_option maxHeartbeats 4000000 in
theorem map_any (w : World) (b m n : Nat) (E G : Prs) (v p : Int) (h : At w b m n E G) :
    Calls Try.prog 7 #[.pointer (some ⟨b, 0, none⟩), .int .i64 v, .int .i64 p] w fun e w' => e = .returned (.int .i64 (mapE E G v p)) ∧ At w' b m n (mapS E G v p).1 (mapS E G v p).2 ∧ Keeps (fun x => x = m ∨ x = n) w w' := by
  by_cases hbad : v < 256 ∨ 6400 ≤ v ∨ p < 0 ∨ 1048576 < p
  · have he : mapE E G v p = 12 := by unfold mapE; rw [if_pos hbad]
    have hs : mapS E G v p = (E, G) := by unfold mapS; rw [he]; rfl
    rw [he, hs]
    have HF := Hid.of h
    clear he hs h
    have hbad' : v < 256 ∨ (256 ≤ v ∧ 6400 ≤ v) ∨ (256 ≤ v ∧ v < 6400 ∧ p < 0) ∨ (256 ≤ v ∧ v < 6400 ∧ 0 ≤ p ∧ 1048576 < p) := by omega
    clear hbad
    rcases hbad' with h1 | ⟨h1, h2⟩ | ⟨h1, h2, h3⟩ | ⟨h1, h2, h3, h4⟩
    all_goals
      go_enter Try.func7, Try.ntmps7
      go_wp2
      go_ret
      exact ⟨rfl, HF.out, Keeps.refl _ _⟩
  · have g1 : 256 ≤ v := by omega
    have g2 : v < 6400 := by omega
    have g3 : 0 ≤ p := by omega
    have g4 : p ≤ 1048576 := by omega
    by_cases h1 : 0 ≤ fnd E v
    · have he : mapE E G v p = 7 := by unfold mapE; rw [if_neg hbad, if_pos (.inl h1)]
      have hs : mapS E G v p = (E, G) := by unfold mapS; rw [he]; rfl
      rw [he, hs]
      have q1 := find_any w b m n E G v h
      have HF := Hid.of h
      clear he hs h hbad
      generalize fnd E v = x at *
      go_enter Try.func7, Try.ntmps7
      go_wp2_with fail
      refine q1.mono ?_
      rintro e w1 ⟨rfl, rfl⟩
      go_wp2
      go_ret
      exact ⟨rfl, HF.out, Keeps.refl _ _⟩
    · by_cases h2 : 0 ≤ fnd G p
      · have he : mapE E G v p = 7 := by unfold mapE; rw [if_neg hbad, if_pos (.inr h2)]
        have hs : mapS E G v p = (E, G) := by unfold mapS; rw [he]; rfl
        rw [he, hs]
        have q1 := find_any w b m n E G v h
        have q2 := holder_any w b m n E G p h
        have HF := Hid.of h
        clear he hs h hbad
        generalize fnd E v = x at *
        generalize fnd G p = y at *
        go_enter Try.func7, Try.ntmps7
        go_wp2_with fail
        refine q1.mono ?_
        rintro e w1 ⟨rfl, rfl⟩
        go_wp2_with fail
        refine q2.mono ?_
        rintro e w1 ⟨rfl, rfl⟩
        go_wp2
        go_ret
        exact ⟨rfl, HF.out, Keeps.refl _ _⟩
      · have he : mapE E G v p = 0 := by unfold mapE; rw [if_neg hbad, if_neg (by omega)]
        have hs : mapS E G v p = (eset E v p, eset G p v) := by unfold mapS; rw [if_pos he]
        rw [he, hs]
        have q1 := find_any w b m n E G v h
        have q2 := holder_any w b m n E G p h
        have q3 := put_any w b m n E G v p h
        clear he hs h hbad
        generalize fnd E v = x at *
        generalize fnd G p = y at *
        go_enter Try.func7, Try.ntmps7
        go_wp2_with fail
        refine q1.mono ?_
        rintro e w1 ⟨rfl, rfl⟩
        go_wp2_with fail
        refine q2.mono ?_
        rintro e w1 ⟨rfl, rfl⟩
        go_wp2_with fail
        refine q3.mono ?_
        rintro e w1 ⟨rfl, hA, hK⟩
        have HF := Hid.of (And.intro hA hK)
        clear hA hK
        go_wp2
        go_ret
        exact ⟨rfl, HF.out⟩

set_option maxRecDepth 100000 in
set_option maxHeartbeats 4000000 in
theorem unmap_any (w : World) (b m n : Nat) (E G : Prs) (v : Int) (h : At w b m n E G) :
    Calls Try.prog 9 #[.pointer (some ⟨b, 0, none⟩), .int .i64 v] w fun e w' => e = .returned (.tuple #[.int .i64 (unE E v).1, .int .i64 (unE E v).2]) ∧ At w' b m n (unS E G v).1 (unS E G v).2 ∧ Keeps (fun x => x = m ∨ x = n) w w' := by
  have q1 := find_any w b m n E G v h
  by_cases h1 : fnd E v < 0
  · have he : unE E v = (0, 13) := by unfold unE; rw [if_pos h1]
    have hs : unS E G v = (E, G) := by unfold unS; rw [if_pos h1]
    rw [he, hs]
    have HF := Hid.of h
    clear he hs h
    generalize fnd E v = x at *
    go_enter Try.func9, Try.ntmps9
    go_wp2_with fail
    refine q1.mono ?_
    rintro e w1 ⟨rfl, rfl⟩
    go_wp2
    go_ret2
    exact ⟨rfl, HF.out, Keeps.refl _ _⟩
  · have he : unE E v = (fnd E v, 0) := by unfold unE; rw [if_neg h1]
    have hs : unS E G v = (edel E v, edel G (fnd E v)) := by unfold unS; rw [if_neg h1]
    rw [he, hs]
    have hb := h.1
    obtain ⟨hbm, hbn, hmn⟩ := h.2.2.2
    have c0 := cell_of hb 0 rfl
    generalize fnd E v = x at *
    obtain ⟨w1, hd1, hE, k1⟩ := h.2.1.del (P := Try.prog) (ty := 0) _ Try.underlying50 Try.underlying3 v
    have hG1 := h.2.2.1.keep k1 (fun e => hmn e.symm)
    have c11 := cell_of (k1.at hb hbm) 1 rfl
    obtain ⟨w2, hd2, hG, k2⟩ := hG1.del (P := Try.prog) (ty := 0) _ Try.underlying50 Try.underlying3 x
    have hfin : At w2 b m n (edel E v) (edel G x) ∧ Keeps (fun x => x = m ∨ x = n) w w2 :=
      ⟨⟨k2.at (k1.at hb hbm) hbn, hE.keep k2 hmn, hG, hbm, hbn, hmn⟩, (k1.mono (fun x _ e => .inl e)).trans (k2.mono (fun x _ e => .inr e))⟩
    have HF := Hid.of hfin
    clear hfin hE hG1 hG k1 k2 hb h hbm hbn hmn he hs
    go_enter Try.func9, Try.ntmps9
    go_wp2_with fail
    refine q1.mono ?_
    rintro e w3 ⟨rfl, rfl⟩
    go_wp2
    go_ret2
    exact ⟨rfl, HF.out⟩

set_option maxRecDepth 100000 in
set_option maxHeartbeats 4000000 in
theorem swap_any (w : World) (b m n : Nat) (E G : Prs) (v p : Int) (h : At w b m n E G) :
    Calls Try.prog 11 #[.pointer (some ⟨b, 0, none⟩), .int .i64 v, .int .i64 p] w fun e w' => e = .returned (.tuple #[.int .i64 (swE E G v p).1, .int .i64 (swE E G v p).2]) ∧ At w' b m n (swS E G v p).1 (swS E G v p).2 ∧ Keeps (fun x => x = m ∨ x = n) w w' := by
  have q1 := find_any w b m n E G v h
  by_cases hbad : p < 0 ∨ 1048576 < p
  · have he : swE E G v p = (0, 12) := by unfold swE; rw [if_pos hbad]
    have hs : swS E G v p = (E, G) := by unfold swS; rw [he]; rfl
    rw [he, hs]
    have HF := Hid.of h
    clear he hs h
    generalize fnd E v = x at *
    have hbad' : p < 0 ∨ (0 ≤ p ∧ 1048576 < p) := by omega
    clear hbad
    rcases hbad' with h1 | ⟨h1, h2⟩
    all_goals
      go_enter Try.func11, Try.ntmps11
      go_wp2_with fail
      refine q1.mono ?_
      rintro e w1 ⟨rfl, rfl⟩
      go_wp2
      go_ret2
      exact ⟨rfl, HF.out, Keeps.refl _ _⟩
  · have g3 : 0 ≤ p := by omega
    have g4 : p ≤ 1048576 := by omega
    by_cases h1 : fnd E v < 0
    · have he : swE E G v p = (0, 13) := by unfold swE; rw [if_neg hbad, if_pos h1]
      have hs : swS E G v p = (E, G) := by unfold swS; rw [he]; rfl
      rw [he, hs]
      have HF := Hid.of h
      clear he hs h hbad
      generalize fnd E v = x at *
      go_enter Try.func11, Try.ntmps11
      go_wp2_with fail
      refine q1.mono ?_
      rintro e w1 ⟨rfl, rfl⟩
      go_wp2
      go_ret2
      exact ⟨rfl, HF.out, Keeps.refl _ _⟩
    · have q2 := holder_any w b m n E G p h
      by_cases h2 : 0 ≤ fnd G p
      · have he : swE E G v p = (0, 7) := by unfold swE; rw [if_neg hbad, if_neg h1, if_pos h2]
        have hs : swS E G v p = (E, G) := by unfold swS; rw [he]; rfl
        rw [he, hs]
        have HF := Hid.of h
        clear he hs h hbad
        generalize fnd E v = x at *
        generalize fnd G p = y at *
        go_enter Try.func11, Try.ntmps11
        go_wp2_with fail
        refine q1.mono ?_
        rintro e w1 ⟨rfl, rfl⟩
        go_wp2_with fail
        refine q2.mono ?_
        rintro e w1 ⟨rfl, rfl⟩
        go_wp2
        go_ret2
        exact ⟨rfl, HF.out, Keeps.refl _ _⟩
      · have he : swE E G v p = (fnd E v, 0) := by unfold swE; rw [if_neg hbad, if_neg h1, if_neg h2]
        have hs : swS E G v p = (eset E v p, eset (edel G (fnd E v)) p v) := by unfold swS; rw [if_pos (by rw [he])]
        rw [he, hs]
        have hb := h.1
        obtain ⟨hbm, hbn, hmn⟩ := h.2.2.2
        have c1 := cell_of hb 1 rfl
        generalize fnd E v = x at *
        generalize fnd G p = y at *
        obtain ⟨w1, hd1, hG, k1⟩ := h.2.2.1.del (P := Try.prog) (ty := 0) _ Try.underlying50 Try.underlying3 x
        have h1' : At w1 b m n E (edel G x) := ⟨k1.at hb hbn, h.2.1.keep k1 hmn, hG, hbm, hbn, hmn⟩
        have q3 := put_any w1 b m n E (edel G x) v p h1'
        have k1' : Keeps (fun x => x = m ∨ x = n) w w1 := k1.mono (fun x _ e => .inr e)
        clear he hs hbad h hG h1' hb hbm hbn hmn k1
        go_enter Try.func11, Try.ntmps11
        go_wp2_with fail
        refine q1.mono ?_
        rintro e w2 ⟨rfl, rfl⟩
        go_wp2_with fail
        refine q2.mono ?_
        rintro e w2 ⟨rfl, rfl⟩
        go_wp2_with fail
        refine q3.mono ?_
        rintro e w2 ⟨rfl, hA, hK⟩
        have HF := Hid.of (And.intro hA (k1'.trans hK))
        clear hA hK
        go_wp2
        go_ret2
        exact ⟨rfl, HF.out⟩
end Tab
end Go.Proofs.Ytcjdejhjbelggaa
