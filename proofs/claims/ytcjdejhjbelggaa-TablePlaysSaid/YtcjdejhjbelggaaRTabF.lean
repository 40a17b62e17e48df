/- The document's table (garthref15): Map's walk. -/
import Derived.Test.YtcjdejhjbelggaaRTabE
set_option linter.unusedVariables false
set_option linter.unusedSimpArgs false
namespace Go.Proofs.Ytcjdejhjbelggaa
open Go.RowKit Go.ChangeMaps
namespace RTab
theorem elem_pairs : Try.prog.elem 27 = 55 := by simp [Program.elem, Try.underlying27]
theorem und_pairs : Try.prog.underlying 27 = some (.slice (Try.prog.elem 27)) := by rw [elem_pairs]; exact Try.underlying27
theorem size_pair (w : World) : (sizeOf 55).run Try.prog w = .ok 2 w := by kernel_rfl
/-- 'L[i:]'. -/
theorem sl_from (w0 : World) (A : Option Addr) (n i cap : Nat) (hi : i ≤ n) (hn : n ≤ cap) (cs : List Value) (hl : cs.length = n * 2) (hA : A = none → n = 0 ∧ cap = 0) (hr : Rd w0 A cs) :
    ∃ A2, (∀ w, (Instr.slice 27 (.slice A n cap) (some (.int .i64 i)) none none).run Try.prog w = .ok (.slice A2 (n - i) (cap - i)) w) ∧ (∀ w, (Instr.sliceAt 27 (.slice A n cap) (some (.int .i64 i)) none none).run Try.prog w = .ok (.slice A2 (n - i) (cap - i)) w) ∧
      (A2 = none → n - i = 0 ∧ cap - i = 0) ∧ Rd w0 A2 (cs.drop (i * 2)) := by
  have h1 : ∀ w, (Instr.slice 27 (.slice A n cap) (some (.int .i64 i)) none none).run Try.prog w = .ok (.slice (if cap = i then A else A.map (·.add (i * 2))) (n - i) (cap - i)) w := by
    intro w
    rw [run_slice_l w _ A n cap und_pairs .i64 i (by omega) (by omega), elem_pairs, size_pair]
    rfl
  refine ⟨_, h1, fun w => ?_, ?_, ?_⟩
  · rw [run_sliceAt_slice w _ _ _ _ _ und_pairs]; exact h1 w
  · intro h
    cases A with
    | none => have := hA rfl; omega
    | some a => split at h <;> simp at h
  · split
    · rename_i e
      have : i = n := by omega
      subst this
      rw [List.drop_eq_nil_of_le (by omega)]
      exact Rd.nil _ _
    · rename_i e
      cases A with
      | none => have := hA rfl; omega
      | some a => exact hr.drop _
/-- 'L[:i:i]'. -/
theorem sl_cut (A : Option Addr) (n i cap : Nat) (hi : i ≤ cap) :
    (∀ w, (Instr.slice 27 (.slice A n cap) none (some (.int .i64 i)) (some (.int .i64 i))).run Try.prog w = .ok (.slice A i i) w) ∧ (∀ w, (Instr.sliceAt 27 (.slice A n cap) none (some (.int .i64 i)) (some (.int .i64 i))).run Try.prog w = .ok (.slice A i i) w) := by
  have h1 : ∀ w, (Instr.slice 27 (.slice A n cap) none (some (.int .i64 i)) (some (.int .i64 i))).run Try.prog w = .ok (.slice A i i) w := by
    intro w
    rw [run_slice_hm w _ A n cap und_pairs .i64 .i64 i i (by omega) (by omega) (by omega), elem_pairs, size_pair]
    have : sliced A 0 (i : Int).toNat (i : Int).toNat 2 = .slice A i i := by
      unfold sliced
      cases A with
      | none => simp
      | some a => simp [Addr.add]
    simpa [Result.andThen] using this
  exact ⟨h1, fun w => by rw [run_sliceAt_slice w _ _ _ _ _ und_pairs]; exact h1 w⟩
set_option maxRecDepth 100000 in
set_option maxHeartbeats 1000000 in
theorem map_no (w : World) (b : Nat) (v : Value) (L : Tab.Prs) (k p : Int) (h : At w b v L) (hm : mapCode L k p ≠ 0) :
    Calls Try.prog 8 #[.pointer (some ⟨b, 0, none⟩), .int .i64 k, .int .i64 p] w fun e w' => e = .returned (.int .i64 (mapCode L k p)) ∧ w = w' := by
  have q1 := find_any w b v L k h
  have q2 := holder_any w b v L p h
  clear h
  unfold mapCode at hm ⊢
  by_cases hbad : k < 256 ∨ 6399 < k ∨ p < 0 ∨ 1048576 < p
  · rw [if_pos hbad]
    clear hm
    have hbad' : k < 256 ∨ (256 ≤ k ∧ 6399 < k) ∨ (256 ≤ k ∧ k ≤ 6399 ∧ p < 0) ∨ (256 ≤ k ∧ k ≤ 6399 ∧ 0 ≤ p ∧ 1048576 < p) := by omega
    clear hbad q1 q2
    rcases hbad' with h1 | ⟨h1, h2⟩ | ⟨h1, h2, h3⟩ | ⟨h1, h2, h3, h4⟩
    all_goals
      go_enter Try.func8, Try.ntmps8
      go_wp2
      go_ret
      exact ⟨rfl, rfl⟩
  · rw [if_neg hbad] at hm ⊢
    have g1 : 256 ≤ k := by omega
    have g2 : k ≤ 6399 := by omega
    have g3 : 0 ≤ p := by omega
    have g4 : p ≤ 1048576 := by omega
    have hor : 0 ≤ byV L k ∨ 0 ≤ byP L p := Decidable.byContradiction fun h => hm (if_neg h)
    rw [if_pos hor]
    clear hm hbad
    generalize byV L k = r1 at *
    generalize byP L p = r2 at *
    have hor' : 0 ≤ r1 ∨ (r1 < 0 ∧ 0 ≤ r2) := by omega
    clear hor
    rcases hor' with h1 | ⟨h1, h2⟩
    · go_enter Try.func8, Try.ntmps8
      go_wp2_with fail
      refine q1.mono ?_
      rintro e w1 ⟨rfl, rfl⟩
      go_wp2
      go_ret
      exact ⟨rfl, rfl⟩
    · go_enter Try.func8, Try.ntmps8
      go_wp2_with fail
      refine q1.mono ?_
      rintro e w1 ⟨rfl, rfl⟩
      go_wp2_with fail
      refine q2.mono ?_
      rintro e w1 ⟨rfl, rfl⟩
      go_wp2
      go_ret
      exact ⟨rfl, rfl⟩
theorem own_some {e sz : Nat} {w : World} {v : Value} {n : Nat} {cs : List Value} (h : Own w e sz v n cs) {g : Nat} (hg : v.ownBlock = some g) : ∃ c, v = .slice (some ⟨g, 0, none⟩) n c := by
  obtain ⟨-, h2⟩ := h
  rcases h2 with ⟨h2, _⟩ | ⟨g', cap', cur, hv, r⟩
  · rw [h2] at hg; cases hg
  · rw [hv] at hg; cases hg; exact ⟨_, hv⟩
theorem one_prs (L : Tab.Prs) : ∀ u ∈ prs L, u.oneCell' = true := by
  intro u hu
  obtain ⟨q, hq, hu⟩ := List.mem_flatMap.1 hu
  simp [enc] at hu
  rcases hu with rfl | rfl <;> rfl
theorem shp {e sz : Nat} {w wa w8 : World} {v8 : Value} {m : Nat} {cs : List Value} (o8 : Own w8 e sz v8 m cs) (at8 : v8.ownBlock = (Value.slice (some ⟨w.heap.size, 0, none⟩) 0 0).ownBlock ∨ v8.ownBlock = some wa.heap.size)
    (ka : Keeps (fun _ => False) w wa) (k8 : Keeps (fun b => (Value.slice (some ⟨w.heap.size, 0, none⟩) 0 0).ownBlock = some b) wa w8) (hs : w.heap.size < wa.heap.size) :
    ∃ g c, v8 = .slice (some ⟨g, 0, none⟩) m c ∧ Rd w8 (some ⟨g, 0, none⟩) cs ∧ Keeps (fun _ => False) w w8 := by
  obtain ⟨g, hg⟩ : ∃ g, v8.ownBlock = some g := by
    rcases at8 with h | h
    · exact ⟨_, h⟩
    · exact ⟨_, h⟩
  obtain ⟨c, rfl⟩ := own_some o8 hg
  obtain ⟨A, cap, hv, hc, hA, hr⟩ := own_rd o8
  cases hv
  exact ⟨g, c, rfl, hr, ka.trans' k8 (fun x hx hl => by have : x = w.heap.size := by cases hx; rfl
                                                        omega)⟩
theorem fin_keep {w w8 w9 w10 : World} {v9 : Value} (K8 : Keeps (fun _ => False) w w8) (k9 : Keeps (fun _ => False) w8 w9) (f9 : ∀ g, v9.ownBlock = some g → w8.heap.size ≤ g) (k10 : Keeps (fun b => v9.ownBlock = some b) w9 w10) : Keeps (fun _ => False) w w10 :=
  (K8.trans k9).trans' k10 (fun x hx hl => by have := f9 x hx; have := K8.size; omega)
set_option maxRecDepth 100000 in
set_option maxHeartbeats 1000000 in
theorem map_yes (w : World) (b : Nat) (v : Value) (L : Tab.Prs) (k p : Int) (h : At w b v L) (hL : L.length ≤ 1000000) (hm : mapCode L k p = 0) :
    Calls Try.prog 8 #[.pointer (some ⟨b, 0, none⟩), .int .i64 k, .int .i64 p] w fun e w' => e = .returned (.int .i64 0) ∧
      (∃ v', At w' b v' (ins L k p) ∧ ∀ g, v'.ownBlock = some g → w.heap.size ≤ g) ∧ Keeps (fun x => x = b) w w' := by
  have q1 := find_any w b v L k h
  have q2 := holder_any w b v L p h
  obtain ⟨hb, ho, hne⟩ := h
  have hbl := lt_of hb
  obtain ⟨A, cap, rfl, hcap, hA, rd⟩ := own_rd ho
  have hA0 : A = none → L.length = 0 ∧ cap = 0 := by
    rintro rfl
    obtain ⟨-, h2⟩ := ho
    rcases h2 with ⟨h2, _⟩ | ⟨g, cp, cur, hv, r⟩
    · injection h2 with _ e2 e3; exact ⟨e2, e3⟩
    · injection hv with e1; cases e1
  have hcode : 256 ≤ k ∧ k ≤ 6399 ∧ 0 ≤ p ∧ p ≤ 1048576 ∧ byV L k < 0 ∧ byP L p < 0 := by
    unfold mapCode at hm
    split at hm
    · omega
    · split at hm <;> omega
  obtain ⟨g1, g2, g3, g4, g5, g6⟩ := hcode
  clear ho hne hm
  generalize byV L k = r1 at *
  generalize byP L p = r2 at *
  have c0 := cell_of hb 0 rfl
  go_enter Try.func8, Try.ntmps8
  go_wp2_with fail
  refine q1.mono ?_
  rintro e w1 ⟨rfl, rfl⟩
  go_wp2_with fail
  refine q2.mono ?_
  rintro e w1 ⟨rfl, rfl⟩
  clear q1 q2
  go_wp2
  go_loop [7] (fun i => ∃ j : Nat, j ≤ L.length ∧ i = .int .i64 j ∧ Hid (∀ x ∈ L.take j, decide (x.1 < k) = true)) (fun i => L.length - (intOf i).toNat)
  case atStart => exact ⟨0, Nat.zero_le _, rfl, Hid.of (by simp)⟩
  case round =>
    obtain ⟨j, hj, rfl, hT⟩ := hrel
    by_cases hgo : ∃ x y, L[j]? = some (x, y) ∧ x < k
    · obtain ⟨x0, y0, hg0, hxk⟩ := hgo
      have hlt : j < L.length := (List.getElem?_eq_some_iff.1 hg0).1
      obtain ⟨b1, o1, s1, x, y, hg, rfl, hc1, hc2⟩ := rpr rd j hlt
      have hxk' : x < k := by rw [hg] at hg0; cases hg0; exact hxk
      have hk1 : decide ((j : Int) < L.length) = true := by simp; omega
      have hx1 : decide (x < k) = true := by simpa using hxk'
      clear hxk hxk' hg0
      have HX : Hid (∀ z ∈ L.take (j + 1), decide (z.1 < k) = true) := by
        refine Hid.of ?_
        rw [take_get hg]
        intro z hz
        rcases List.mem_append.1 hz with h | h
        · exact hT.out z h
        · simp at h; rw [h]; exact hx1
      clear hg
      go_wp2
      go_round
      case rel => exact ⟨j + 1, by omega, by go_num, HX⟩
      case measure => simp [intOf]; omega
    · have hcut : Hid (cutI L k = j) := by
        refine Hid.of (cutI_is hj hT.out (fun x hx => ?_))
        have : ¬ x.1 < k := fun hh => hgo ⟨x.1, x.2, hx, hh⟩
        simpa using this
      obtain ⟨A2, s1, s2, hA2, r2'⟩ := sl_from w A L.length j cap hj hcap (prs L) (prs_len L) hA0 rd
      obtain ⟨s3, s4⟩ := sl_cut A L.length j cap (by omega)
      have rt := rd.take (j * 2)
      rw [prs_take] at rt
      rw [prs_drop] at r2'
      have hAj : A = none → j = 0 := fun e => by have := hA0 e; omega
      obtain ⟨m, hm⟩ : ∃ m, L.length - j = m := ⟨_, rfl⟩
      obtain ⟨m2, hm2⟩ : ∃ m2, cap - j = m2 := ⟨_, rfl⟩
      have lt1 : (prs (L.take j)).length = j * 2 := by rw [prs_len, List.length_take, Nat.min_eq_left hj]
      have lt2 : (prs (L.drop j)).length = m * 2 := by rw [prs_len, List.length_drop, hm]
      have hmle : m ≤ 1000000 := by omega
      have hjle : j ≤ 1000000 := by omega
      rw [hm, hm2] at s1 s2 hA2
      have HM := Hid.of hm
      clear hm hm2
      have hex : (decide ((j : Int) < L.length) = false ∧ ¬ j < L.length) ∨ (∃ b1 o1 z1 x, A = some ⟨b1, o1, z1⟩ ∧ decide ((j : Int) < L.length) = true ∧ w.cell? ((⟨b1, o1, z1⟩ : Addr).add (j * 2)) = some (.int .i64 x) ∧ j < L.length ∧ decide (x < k) = false) := by
        by_cases hlt : j < L.length
        · obtain ⟨b1, o1, z1, x, y, hg, hAe, hc1, hc2⟩ := rpr rd j hlt
          refine .inr ⟨b1, o1, z1, x, hAe, by simp; omega, hc1, hlt, ?_⟩
          have : ¬ x < k := fun hh => hgo ⟨x, y, hg, hh⟩
          simpa using this
        · exact .inl ⟨by simp; omega, hlt⟩
      have oe := own_empty w 55 2
      obtain ⟨wa, hwa⟩ : ∃ wa, w.alloc (.cells #[] 55) = wa := ⟨_, rfl⟩
      rw [hwa] at oe
      have ka : Keeps (fun _ => False) w wa := by rw [← hwa]; exact (Keeps.refl _ _).alloc _
      have hsa : w.heap.size < wa.heap.size := by rw [← hwa]; simp
      have r2a := r2'.old ka
      have ca := cell_of (v := .slice A L.length cap) (ka.at hb (fun x => x)) 0 rfl
      clear hgo r2'
      rcases hex with ⟨hk1, hnlt⟩ | ⟨b1, o1, z1, x, rfl, hk1, hc1, hlt, hx1⟩
      all_goals
        go_wp2_with (first
          | (at_builtin; have kk := k9; refine wpList_appM slPairs w9 rfl _ _ rfl v9 (j + 1) _ rfl o9 ⟨g8, 0, none⟩ m c8 (prs (L.drop j)) rfl lt2 r9 (one_prs _) (by unfold maxLen; omega) (by omega) ?_; intro v10 w10 o10 k10 at10; obtain ⟨A10, c10, rfl, -, -, -⟩ := o10.shape; have K10 := fin_keep K8 k9 f9 k10; have hb10 := K10.at hb (fun x => x); have fr := free_of hb10 0; have c10' := cell_of (v := .slice _ L.length cap) hb10 0 rfl; obtain ⟨w11, hw11⟩ : ∃ w11, w10.setCell ⟨b, 0, none⟩ (.slice A10 (j + 1 + m) c10) = w11 := ⟨_, rfl⟩)
          | (at_builtin; have kk := k8; refine wpList_appCut slPairs w8 rfl _ _ rfl _ j (prs (L.take j)) rfl hAj lt1 rt8 [.int .i64 k, .int .i64 p] rfl rfl (by simp [Value.oneCell']) (by unfold maxLen; omega) (by omega) ?_; intro v9 w9 o9 f9 k9; have r9 := r8.old k9; have hsz9 := k9.size)
          | (at_builtin; refine wpList_appN slPairs wa rfl _ _ rfl (.slice (some ⟨w.heap.size, 0, none⟩) 0 0) rfl oe A2 m m2 (prs (L.drop j)) rfl hA2 lt2 r2a (one_prs _) (by unfold maxLen; omega) (by omega) ?_; intro v8 w8 o8 k8 at8; obtain ⟨g8, c8, rfl, r8, K8⟩ := shp o8 at8 ka k8 hsa; have c8' := cell_of (v := .slice _ L.length cap) (K8.at hb (fun x => x)) 0 rfl; have rt8 := rt.old K8))
        have hsz8 := K8.size
        have hbg : ∀ g, (Value.slice A10 (j + 1 + m) c10).ownBlock = some g → w.heap.size ≤ g := by
          intro g hg
          rcases at10 with e | e
          · have := f9 g (by rw [← e]; exact hg); omega
          · rw [e] at hg; cases hg; omega
        have hbn : (Value.slice A10 (j + 1 + m) c10).ownBlock ≠ some b := fun e => by have := hbg b e; omega
        have hlen : (ins L k p).length = j + 1 + m := by
          unfold ins insL
          rw [hcut.out, List.length_append, List.length_cons, List.length_take, List.length_drop, Nat.min_eq_left hj, HM.out]; omega
        have hcs : (prs (L.take j) ++ [.int .i64 k, .int .i64 p]) ++ prs (L.drop j) = prs (ins L k p) := by unfold ins; rw [hcut.out]; exact prs_ins L k p j
        rw [hcs] at o10
        have hfin : (∃ v', At w11 b v' (ins L k p) ∧ ∀ g, v'.ownBlock = some g → w.heap.size ≤ g) ∧ Keeps (fun x => x = b) w w11 := by
          rw [← hw11]
          refine ⟨⟨_, ⟨set_of hb10 0 _, ?_, hbn⟩, hbg⟩, (K10.mono (fun _ _ e => e.elim)).setCell _ _ (.inl rfl)⟩
          rw [hlen]
          exact o10.setCell _ _ hbn
        have HF := Hid.of hfin
        clear hfin o10 hb10 hcs hlen hbn hbg
        go_wp2
        go_ret
        exact ⟨rfl, HF.out⟩
theorem map_any (w : World) (b : Nat) (v : Value) (L : Tab.Prs) (k p : Int) (h : At w b v L) (hL : L.length ≤ 1000000) :
    Calls Try.prog 8 #[.pointer (some ⟨b, 0, none⟩), .int .i64 k, .int .i64 p] w fun e w' => e = .returned (.int .i64 (mapCode L k p)) ∧
      (∃ v', At w' b v' (if mapCode L k p = 0 then ins L k p else L) ∧ (v'.ownBlock = v.ownBlock ∨ ∀ g, v'.ownBlock = some g → w.heap.size ≤ g)) ∧ Keeps (fun x => x = b) w w' := by
  by_cases hm : mapCode L k p = 0
  · rw [if_pos hm, hm]
    exact (map_yes w b v L k p h hL hm).mono fun e w' ⟨h1, ⟨v', h2, h3⟩, h4⟩ => ⟨h1, ⟨v', h2, .inr h3⟩, h4⟩
  · rw [if_neg hm]
    exact (map_no w b v L k p h hm).mono fun e w' ⟨h1, h2⟩ => ⟨h1, ⟨v, h2 ▸ h, .inl rfl⟩, h2 ▸ Keeps.refl _ _⟩
end RTab
end Go.Proofs.Ytcjdejhjbelggaa
