/- The document's table (garthref15): Swap's walk. -/
import Derived.Test.YtcjdejhjbelggaaRTabC
set_option linter.unusedVariables false
set_option linter.unusedSimpArgs false
namespace Go.Proofs.Ytcjdejhjbelggaa
open Go.RowKit Go.ChangeMaps
namespace RTab
set_option maxRecDepth 100000 in
set_option maxHeartbeats 1000000 in
theorem swap_any (w : World) (b : Nat) (v : Value) (L : Tab.Prs) (k p : Int) (h : At w b v L) (hL : L.length ≤ 1000000) :
    Calls Try.prog 12 #[.pointer (some ⟨b, 0, none⟩), .int .i64 k, .int .i64 p] w fun e w' => e = .returned (.tuple #[.int .i64 (swCode L k p).1, .int .i64 (swCode L k p).2]) ∧
      At w' b v (if (swCode L k p).2 = 0 then swL L k p else L) ∧ Keeps (fun x => v.ownBlock = some x) w w' := by
  have q1 := find_any w b v L k h
  have q2 := holder_any w b v L p h
  by_cases hbad : p < 0 ∨ 1048576 < p
  · have hs : swCode L k p = (0, 12) := by unfold swCode; rw [if_pos hbad]
    rw [hs, if_neg (by simp)]
    generalize byV L k = r at *
    have HH := Hid.of h
    clear h q2 hs
    have hbad' : p < 0 ∨ (0 ≤ p ∧ 1048576 < p) := by omega
    clear hbad
    rcases hbad' with h1 | ⟨h1, h2⟩
    all_goals
      go_enter Try.func12, Try.ntmps12
      go_wp2_with fail
      refine q1.mono ?_
      rintro e w1 ⟨rfl, rfl⟩
      go_wp2
      go_ret2
      exact ⟨rfl, HH.out, Keeps.refl _ _⟩
  · have g3 : 0 ≤ p := by omega
    have g4 : p ≤ 1048576 := by omega
    by_cases h1 : byV L k < 0
    · have hs : swCode L k p = (0, 13) := by unfold swCode; rw [if_neg hbad, if_pos h1]
      rw [hs, if_neg (by simp)]
      generalize byV L k = r at *
      have HH := Hid.of h
      clear h q2 hs hbad
      go_enter Try.func12, Try.ntmps12
      go_wp2_with fail
      refine q1.mono ?_
      rintro e w1 ⟨rfl, rfl⟩
      go_wp2
      go_ret2
      exact ⟨rfl, HH.out, Keeps.refl _ _⟩
    · by_cases h2 : 0 ≤ byP L p
      · have hs : swCode L k p = (0, 7) := by unfold swCode; rw [if_neg hbad, if_neg h1, if_pos h2]
        rw [hs, if_neg (by simp)]
        generalize byV L k = r at *
        generalize byP L p = r2 at *
        have HH := Hid.of h
        clear h hs hbad
        go_enter Try.func12, Try.ntmps12
        go_wp2_with fail
        refine q1.mono ?_
        rintro e w1 ⟨rfl, rfl⟩
        go_wp2_with fail
        refine q2.mono ?_
        rintro e w1 ⟨rfl, rfl⟩
        go_wp2
        go_ret2
        exact ⟨rfl, HH.out, Keeps.refl _ _⟩
      · have hs : swCode L k p = (byV L k, 0) := by unfold swCode; rw [if_neg hbad, if_neg h1, if_neg h2]
        rw [hs, if_pos rfl]
        generalize byV L k = r at *
        generalize byP L p = r2 at *
        obtain ⟨hb, ho, hne⟩ := h
        have hlen := ho.maxLen
        unfold maxLen at hlen
        obtain ⟨A, cap, rfl, hcap, hA, -⟩ := own_rd ho
        clear hs hbad
        go_enter Try.func12, Try.ntmps12
        go_wp2_with fail
        refine q1.mono ?_
        rintro e w1 ⟨rfl, rfl⟩
        go_wp2_with fail
        refine q2.mono ?_
        rintro e w1 ⟨rfl, rfl⟩
        go_wp2
        clear q1 q2
        go_loopw [9] (fun i wr => ∃ j : Nat, j ≤ L.length ∧ i = .int .i64 j ∧ Own wr 55 2 (.slice A L.length cap) L.length (prs (swT L k p j)) ∧ Keeps (fun x => (Value.slice A L.length cap).ownBlock = some x) w wr) (fun i _ => L.length - (intOf i).toNat)
        case atStart => exact ⟨0, Nat.zero_le _, rfl, by simpa [swT, swL] using ho, Keeps.refl _ _⟩
        case round =>
          clear ho
          obtain ⟨j, hj, rfl, ho, kp⟩ := hrel
          have hb' := kp.at hb (by exact hne)
          have c0 := cell_of hb' 0 rfl
          by_cases hlt : j < L.length
          · have hl := swT_len L k p j
            obtain ⟨A', cap', hv', hc', hnn, hrr⟩ := ho.shape
            injection hv' with e1 e2 e3
            subst e1 e3
            obtain ⟨g, hAg, hog, hcl⟩ := hrr (j * 2) (by omega)
            obtain ⟨g', hAg', hog', hcl'⟩ := hrr (j * 2 + 1) (by omega)
            rw [hog] at hog'; cases hog'
            subst hAg
            obtain ⟨x, y, hg⟩ : ∃ x y, L[j]? = some (x, y) := ⟨_, _, List.getElem?_eq_getElem hlt⟩
            have hq : (swT L k p j)[j]? = some (x, y) := by rw [swT_get L k p j hlt]; exact hg
            have f0 := flatMap_get enc 2 (fun _ => rfl) (swT L k p j) j _ hq 0 (by omega)
            have f1 := flatMap_get enc 2 (fun _ => rfl) (swT L k p j) j _ hq 1 (by omega)
            have t0 : wr.cell? ⟨g, j * 2, none⟩ = some (.int .i64 x) := by rw [hcl]; exact f0
            have t1 : wr.cell? ⟨g, j * 2 + 1, none⟩ = some (.int .i64 y) := by rw [hcl']; exact f1
            obtain ⟨cur, hcur⟩ : ∃ cur, wr.heap[g]? = some (.cells cur 55 (0, 0)) := by
              obtain ⟨_, h2⟩ := ho
              rcases h2 with ⟨h2, _⟩ | ⟨g2, cap2, cur2, hv2, hg2, hh2, r2⟩
              · cases h2
              · cases hv2; exact ⟨_, hh2⟩
            have fr : wr.frozen? ⟨g, j * 2 + 1, none⟩ = false := free_of hcur _
            have hk1 : decide ((j : Int) < L.length) = true := by simp; omega
            obtain ⟨w2, hw2⟩ : ∃ w2, wr.setCell ⟨g, j * 2 + 1, none⟩ (.int .i64 p) = w2 := ⟨_, rfl⟩
            have hst := swT_step (k := k) (p := p) hg
            by_cases hxk : x = k
            · have e1 : (x == k) = true := by simp [hxk]
              rw [if_pos hxk] at hst
              have o2 : Own w2 55 2 (.slice (some ⟨g, 0, none⟩) L.length cap) L.length (prs (swT L k p (j + 1))) := by
                rw [← hw2, hst, ← prs_set _ _ _ _ _ hq]
                exact Own.setAt ho _ _ (by omega)
              have k2 : Keeps (fun x => (Value.slice (some ⟨g, 0, none⟩) L.length cap).ownBlock = some x) w w2 := by
                rw [← hw2]
                exact kp.setCell _ _ (.inl rfl)
              have HF := Hid.of (And.intro o2 k2)
              clear o2 k2 hxk hst hq f0 f1 hcl hcl' hrr hnn ho hcur hb' hg hl
              go_wp2
              go_roundw
              case rel => exact ⟨j + 1, by omega, by go_num, HF.out⟩
              case measure => simp [intOf]; omega
            · have e1 : (x == k) = false := by simp [hxk]
              rw [if_neg hxk] at hst
              have HF : Hid (Own wr 55 2 (.slice (some ⟨g, 0, none⟩) L.length cap) L.length (prs (swT L k p (j + 1))) ∧ Keeps (fun x => (Value.slice (some ⟨g, 0, none⟩) L.length cap).ownBlock = some x) w wr) := by
                refine Hid.of ⟨?_, kp⟩
                rw [hst]; exact ho
              clear hxk hst hq f0 f1 hcl hcl' hrr hnn ho hcur hb' hg hl hw2
              go_wp2
              go_roundw
              case rel => exact ⟨j + 1, by omega, by go_num, HF.out⟩
              case measure => simp [intOf]; omega
          · have hje : j = L.length := by omega
            have hk1 : decide ((j : Int) < L.length) = false := by simp; omega
            have hfin : At wr b (.slice A L.length cap) (swL L k p) ∧ Keeps (fun x => (Value.slice A L.length cap).ownBlock = some x) w wr := by
              have e1 : swT L k p j = swL L k p := by
                unfold swT
                rw [List.take_of_length_le (by omega), List.drop_eq_nil_of_le (by omega), List.append_nil]
              rw [e1] at ho
              refine ⟨⟨hb', ?_, hne⟩, kp⟩
              have : (swL L k p).length = L.length := by unfold swL; simp
              rw [this]; exact ho
            have HF := Hid.of hfin
            clear hfin hje ho hb'
            go_wp2
            go_ret2
            exact ⟨rfl, HF.out⟩
end RTab
end Go.Proofs.Ytcjdejhjbelggaa
