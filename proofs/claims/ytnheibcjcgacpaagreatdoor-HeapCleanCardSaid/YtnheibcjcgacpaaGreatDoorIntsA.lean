/- slices.Clone, slices.Sort, slices.Contains at []int. -/
import Derived.Test.YtnheibcjcgacpaaGreatDoorSame
import Derived.Test.YtnheibcjcgacpaaGreatDoorApp
import Derived.Test.YtnheibcjcgacpaaGreatDoorOut
import Derived.Test.YtnheibcjcgacpaaGreatDoorSort
import Derived.Sort.OwnSortedInts
import Derived.WalkSpells
import Derived.WalkLawsBesides
set_option linter.unusedVariables false
set_option linter.unusedSimpArgs false
namespace Go.Proofs.YtnheibcjcgacpaaGreatDoor
open Go.RowKit Go.ChangeMaps
theorem Rd_drop1 {w : World} {ad : Addr} {xs : List Value} (h : Rd w (some ad) xs) (n : Nat) : Rd w (some (ad.add n)) (xs.drop n) := by
  intro j u hu
  rw [List.getElem?_drop] at hu
  obtain ⟨a', e, hc⟩ := h _ u hu
  cases e
  exact ⟨_, rfl, by rw [Addr.add_add]; exact hc⟩
theorem Rd_take1 {w : World} {A : Option Addr} {xs : List Value} (h : Rd w A xs) (n : Nat) : Rd w A (xs.take n) := by
  intro j u hu
  refine h j u ?_
  rw [List.getElem?_take] at hu
  split at hu
  · exact hu
  · cases hu
theorem sl_to (A : Option Addr) (n z cap : Nat) (hz : z ≤ cap) :
    (∀ w, (Instr.slice 24 (.slice A n cap) none (some (.int .i64 z)) none).run Tryz.prog w = .ok (.slice A z cap) w) ∧ (∀ w, (Instr.sliceAt 24 (.slice A n cap) none (some (.int .i64 z)) none).run Tryz.prog w = .ok (.slice A z cap) w) := by
  have he : Tryz.prog.elem 24 = 3 := by simp [Program.elem, Tryz.underlying24]
  have ht : Tryz.prog.underlying 24 = some (.slice (Tryz.prog.elem 24)) := by rw [he]; exact Tryz.underlying24
  have hsz : ∀ w, (sizeOf 3).run Tryz.prog w = .ok 1 w := fun w => by kernel_rfl
  have h1 : ∀ w, (Instr.slice 24 (.slice A n cap) none (some (.int .i64 z)) none).run Tryz.prog w = .ok (.slice A z cap) w := by
    intro w
    rw [run_slice_h w _ A n cap ht .i64 z (by omega) (by omega), he, hsz]
    have : sliced A 0 (z : Int).toNat cap 1 = .slice A z cap := by
      unfold sliced
      cases A with
      | none => simp
      | some a => simp [Addr.add]
    rw [← this]; rfl
  exact ⟨h1, fun w => by rw [run_sliceAt_slice w _ _ _ _ _ ht]; exact h1 w⟩
theorem sl_from (w0 : World) (A : Option Addr) (n i cap : Nat) (hi : i ≤ n) (hn : n ≤ cap) (cs : List Value) (hl : cs.length = n) (hA : A = none → n = 0 ∧ cap = 0) (hr : Rd w0 A cs) :
    ∃ A2, (∀ w, (Instr.slice 24 (.slice A n cap) (some (.int .i64 i)) none none).run Tryz.prog w = .ok (.slice A2 (n - i) (cap - i)) w) ∧ (∀ w, (Instr.sliceAt 24 (.slice A n cap) (some (.int .i64 i)) none none).run Tryz.prog w = .ok (.slice A2 (n - i) (cap - i)) w) ∧
      (A2 = none → n - i = 0 ∧ cap - i = 0) ∧ Rd w0 A2 (cs.drop i) ∧ (∀ ad, A2 = some ad → ∃ ad', A = some ad' ∧ ad.block = ad'.block) := by
  have he : Tryz.prog.elem 24 = 3 := by simp [Program.elem, Tryz.underlying24]
  have ht : Tryz.prog.underlying 24 = some (.slice (Tryz.prog.elem 24)) := by rw [he]; exact Tryz.underlying24
  have hsz : ∀ w, (sizeOf 3).run Tryz.prog w = .ok 1 w := fun w => by kernel_rfl
  have h1 : ∀ w, (Instr.slice 24 (.slice A n cap) (some (.int .i64 i)) none none).run Tryz.prog w = .ok (.slice (if cap = i then A else A.map (·.add (i * 1))) (n - i) (cap - i)) w := by
    intro w
    rw [run_slice_l w _ A n cap ht .i64 i (by omega) (by omega), he, hsz]
    rfl
  refine ⟨_, h1, fun w => ?_, ?_, ?_, ?_⟩
  · rw [run_sliceAt_slice w _ _ _ _ _ ht]; exact h1 w
  · intro e
    split at e
    · obtain ⟨e1, e2⟩ := hA e; omega
    · cases A with
      | none => obtain ⟨e1, e2⟩ := hA rfl; omega
      | some a => cases e
  · split
    · rename_i e
      rw [List.drop_eq_nil_of_le (by omega)]
      exact Rd.nil _ _
    · cases A with
      | none => have := hA rfl; omega
      | some a => rw [Nat.mul_one]; exact Rd_drop1 hr _
  · intro ad e
    split at e
    · exact ⟨ad, e, rfl⟩
    · cases A with
      | none => cases e
      | some a =>
        have e' : a.add (i * 1) = ad := Option.some.inj e
        exact ⟨a, rfl, by rw [← e', block_add]⟩
theorem one_ints (L : List Int) : ∀ u ∈ ints L, u.oneCell' = true := by
  intro u hu
  unfold ints at hu
  obtain ⟨c, _, rfl⟩ := List.mem_map.1 hu
  rfl
def CloneR (w : World) (n : Nat) (news : List Value) (e : Ending) (w' : World) : Prop := ∃ v, e = .returned v ∧ OutR 3 1 w.heap.size w' v n news ∧ Keeps (fun _ => False) w w'
set_option maxRecDepth 100000 in
set_option maxHeartbeats 1000000 in
theorem clone_ints (w : World) (A : Option Addr) (n cap : Nat) (news : List Value) (hA : A = none → n = 0 ∧ cap = 0) (hl : news.length = n) (hr : Rd w A news) (h1 : ∀ u ∈ news, u.oneCell' = true) (hn : n ≤ 17592186044416) :
    Calls Tryz.prog 120 #[.slice A n cap] w (CloneR w n news) := by
  have hq : ∀ w, (binOp .eql 24 (.slice A n cap) (.slice none 0 0)).run Tryz.prog w = .ok (.bool A.isNone) w := fun w => Lib.run_eql_slice_nil w _ _ A n cap 0 0 Tryz.underlying24
  cases A with
  | none =>
    obtain ⟨rfl, rfl⟩ := hA rfl
    obtain rfl : news = [] := List.eq_nil_of_length_eq_zero hl
    clear hr h1 hA hl
    go_enter Tryz.func120, Tryz.ntmps120
    go_wp2
    go_ret
    exact ⟨_, rfl, OutR.nil _ _ _ _, Keeps.refl _ _⟩
  | some ad =>
    obtain ⟨w3, hw3⟩ : ∃ w3, w.alloc (.cells #[] 3) = w3 := ⟨_, rfl⟩
    have o3 : Own w3 3 1 (.slice (some ⟨w.heap.size, 0, none⟩) 0 0) 0 [] := by rw [← hw3]; exact own_empty _ _ _
    have k3 : Keeps (fun _ => False) w w3 := by rw [← hw3]; exact (Keeps.refl _ _).alloc _
    have r3 := hr.old k3
    clear hr hA
    go_enter Tryz.func120, Tryz.ntmps120
    go_wp2_with (at_builtin; refine wpList_appO slInts w3 rfl _ _ rfl _ 0 [] rfl o3 (some ad) n cap news rfl (by intro e; cases e) (by rw [hl, Nat.mul_one]) r3 h1 (by unfold maxLen; omega) (by omega) ?_; intro v5 w5 o5 k5 at5; have HF := Hid.of (clone_end k3 o5 k5 at5); clear o5 k5 at5 o3 k3 r3 hw3)
    go_ret
    exact ⟨_, rfl, HF.out⟩
/-- slices.Sort of a row of one's own. -/
theorem sort_own (w : World) (v : Value) (n : Nat) (L : List Int) (h : Own w 3 1 v n (ints L)) (hn : n ≤ 1000000000) :
    Calls Tryz.prog 197 #[v] w fun e w' => e = .returned (.tuple #[]) ∧ Own w' 3 1 v n (ints (L.mergeSort fun x y => decide (x ≤ y))) ∧ Keeps (fun b => v.ownBlock = some b) w w' := by
  have hl : L.length = n := by have := h.1; rw [ints_length] at this; omega
  rcases h.2 with ⟨rfl, rfl⟩ | ⟨g, cap, cur, rfl, hb, hh, hc, hcm, hs, ht⟩
  · refine (Tryz.slices_Sort_int_none none 0 w).mono fun e w' ⟨h1, h2⟩ => ⟨h1, ?_, ?_⟩
    · have : L = [] := List.eq_nil_of_length_eq_zero hl
      subst this h2
      simpa [ints] using h
    · rw [h2]; exact Keeps.refl _ _
  · subst hl
    have hH : Go.Sort.Holds (Value.int .i64) w g 0 L.toArray := holds_of_blockI (e := 3) hh (by rw [Nat.mul_one] at ht; exact ht)
    refine (Tryz.slices_Sort_int g 0 cap L w hH (lt_of hh) (by omega)).mono fun e w' ⟨h1, m, os, h2⟩ => ⟨h1, ?_, ?_⟩
    · rw [h2]
      have := ownsRow_sortedI (n := m) (os := os) (ss := L) (ts := L.mergeSort fun x y => decide (x ≤ y)) (base := 0) (List.length_mergeSort _) (Nat.zero_le _) hh hc hcm hs
      exact this
    · rw [h2]
      have hg := grownBy_sortedI (w := w) (g := g) (n := m) (os := os) ((L.mergeSort fun x y => decide (x ≤ y)).toArray)
      exact ⟨hg.os, hg.tape, hg.output, hg.size, fun b hb' hf => hg.block b hb' (fun e => hf (by show some g = some b; exact e.symm))⟩
def IndexR (w : World) (L : List Int) (x : Int) (e : Ending) (w' : World) : Prop := ∃ r : Int, e = .returned (.int .i64 r) ∧ (0 ≤ r ↔ x ∈ L) ∧ w = w'
set_option maxRecDepth 100000 in
set_option maxHeartbeats 1000000 in
theorem index_ints (w : World) (A : Option Addr) (n cap : Nat) (L : List Int) (x : Int) (hl : L.length = n) (hr : Rd w A (ints L)) (hn : n ≤ 1000000000) :
    Calls Tryz.prog 290 #[.slice A n cap, .int .i64 x] w (IndexR w L x) := by
  go_enter Tryz.func290, Tryz.ntmps290
  go_wp2
  go_loop [8] (fun i => ∃ k : Nat, k ≤ n ∧ i = .int .i64 k ∧ Hid (∀ j, j < k → L[j]? ≠ some x)) (fun i => n - (intOf i).toNat)
  case atStart => exact ⟨0, Nat.zero_le _, rfl, Hid.of (fun j hj => by omega)⟩
  case round =>
    obtain ⟨k, hk, rfl, HN⟩ := hrel
    by_cases hlt : k < n
    · obtain ⟨b, o, s, rfl, hc⟩ := rd_int hr k (by omega)
      obtain ⟨y, hy⟩ : ∃ y, L.getD k 0 = y := ⟨_, rfl⟩
      rw [hy] at hc
      have hg : L[k]? = some y := by rw [← hy, List.getD_eq_getElem?_getD, List.getElem?_eq_getElem (by omega)]; rfl
      have HG := Hid.of hg
      have hlti : (k : Int) < (n : Int) := by omega
      clear hy hg
      by_cases hxy : x = y
      · have h1 : (x == y) = true := by simpa using hxy
        have HM : Hid (x ∈ L) := Hid.of (by rw [hxy]; exact List.mem_of_getElem? HG.out)
        clear hxy
        go_wp2
        go_ret
        exact ⟨_, rfl, ⟨fun _ => HM.out, fun _ => by omega⟩, rfl⟩
      · have h1 : (x == y) = false := by simpa using hxy
        have HN2 : Hid (∀ j, j < k + 1 → L[j]? ≠ some x) := Hid.of (fun j hj => by
          by_cases e : j = k
          · rw [e, HG.out]; intro e2; injection e2 with e2; exact hxy e2.symm
          · exact HN.out j (by omega))
        clear hxy
        go_wp2
        go_round
        case rel => exact ⟨k + 1, by omega, by go_num, HN2⟩
        case measure => simp [intOf]; omega
    · have hke : k = n := by omega
      have hl1 : ¬ ((k : Int) < (n : Int)) := by omega
      have HM : Hid (¬ x ∈ L) := Hid.of (fun hm => by
        obtain ⟨j, hj, e⟩ := List.mem_iff_getElem.1 hm
        exact HN.out j (by omega) (by rw [List.getElem?_eq_getElem hj, e]))
      clear hke
      go_wp2
      go_ret
      exact ⟨_, rfl, ⟨fun h => by omega, fun h => absurd h HM.out⟩, rfl⟩
set_option maxRecDepth 100000 in
set_option maxHeartbeats 1000000 in
theorem contains_ints (w : World) (A : Option Addr) (n cap : Nat) (L : List Int) (x : Int) (hl : L.length = n) (hr : Rd w A (ints L)) (hn : n ≤ 1000000000) :
    Calls Tryz.prog 225 #[.slice A n cap, .int .i64 x] w fun e w' => e = .returned (.bool (decide (x ∈ L))) ∧ w = w' := by
  have q := index_ints w A n cap L x hl hr hn
  obtain ⟨r, hR⟩ : ∃ r, decide (x ∈ L) = r := ⟨_, rfl⟩
  have HR := Hid.of hR
  rw [hR]
  clear hR hr
  go_enter Tryz.func225, Tryz.ntmps225
  go_wp2_with fail
  refine q.mono ?_
  rintro e w1 ⟨i, rfl, hi, rfl⟩
  have HI : Hid (decide (0 ≤ i) = r) := Hid.of (by rw [← HR.out]; exact decide_eq_decide.2 hi)
  clear hi q
  go_wp2
  go_ret
  exact ⟨by rw [← HI.out]; rfl, rfl⟩
end Go.Proofs.YtnheibcjcgacpaaGreatDoor
