/- Two slices of ints held against each other (garthref08.Same). -/
import Derived.Test.YtnheibcjcgacpaaGreatDoorRd
set_option linter.unusedVariables false
set_option linter.unusedSimpArgs false
namespace Go.Proofs.YtnheibcjcgacpaaGreatDoor
open Go.RowKit Go.ChangeMaps
theorem slInts : SlT Tryz.prog 24 3 1 8 := SlT.mk' (z := .int .i64 0) Tryz.underlying24 (by kernel_rfl) rfl (by decide)
set_option maxRecDepth 100000 in
set_option maxHeartbeats 1000000 in
theorem same_any (w : World) (A B : Option Addr) (ca cb : Nat) (xs ys : List Int) (ha : Rd w A (ints xs)) (hb : Rd w B (ints ys)) (hx : xs.length ≤ maxLen) (hy : ys.length ≤ maxLen) :
    Calls Tryz.prog 33 #[.slice A xs.length ca, .slice B ys.length cb] w fun e w' => e = .returned (.bool (xs == ys)) ∧ ∃ n, w' = w.drewN n := by
  unfold maxLen at hx hy
  by_cases hl : xs.length = ys.length
  · have hl' : ((xs.length : Int) != (ys.length : Int)) = false := by simp [hl]
    have HL : Hid (xs.length = ys.length) := hl
    clear hl
    go_enter Tryz.func33, Tryz.ntmps33
    go_wp2
    go_loopw [5] (fun i wr => ∃ k : Nat, k ≤ xs.length ∧ i = .int .i64 k ∧ Hid (xs.take k = ys.take k) ∧ ∃ n, wr = w.drewN n) (fun i _ => xs.length - (intOf i).toNat)
    case atStart => exact ⟨0, Nat.zero_le _, rfl, rfl, 0, rfl⟩
    case round =>
      obtain ⟨k, hk, rfl, hT, n, rfl⟩ := hrel
      by_cases hlt : k < xs.length
      · have hlt2 : k < ys.length := by rw [← HL.out]; exact hlt
        obtain ⟨b1, o1, s1, rfl, hc1⟩ := rd_int ha k hlt
        obtain ⟨b2, o2, s2, rfl, hc2⟩ := rd_int hb k hlt2
        have hk1 : decide ((k : Int) < xs.length) = true := by simp; omega
        have hk2 : decide ((k : Int) < ys.length) = true := by simp; omega
        have e1 : xs.take (k + 1) = xs.take k ++ [xs.getD k 0] := by rw [List.take_succ_eq_append_getElem hlt]; simp [List.getD_eq_getElem?_getD, List.getElem?_eq_getElem hlt]
        have e2 : ys.take (k + 1) = ys.take k ++ [ys.getD k 0] := by rw [List.take_succ_eq_append_getElem hlt2]; simp [List.getD_eq_getElem?_getD, List.getElem?_eq_getElem hlt2]
        generalize xs.getD k 0 = x at *
        generalize ys.getD k 0 = y at *
        have E1 : Hid _ := e1
        have E2 : Hid _ := e2
        clear e1 e2
        by_cases hxy : x = y
        · have hxy' : (x != y) = false := by simp [hxy]
          have HXY : Hid _ := hxy
          clear hxy
          go_wp2
          go_quiet (fail)
          go_wp2
          go_roundw
          case rel => exact ⟨k + 1, by omega, by go_num, show xs.take (k + 1) = ys.take (k + 1) by rw [E1.out, E2.out, hT.out, HXY.out], n + nq, rfl⟩
          case measure => simp [intOf]; omega
        · have hxy' : (x != y) = true := by simp [hxy]
          have HXY : Hid _ := hxy
          clear hxy
          go_wp2
          go_quiet (fail)
          go_wp2
          go_ret
          refine ⟨?_, n + nq, by unfold World.drewN; simp [Nat.add_assoc]⟩
          have : (xs == ys) = false := by
            rw [beq_eq_false_iff_ne]
            rintro rfl
            have := E1.out.symm.trans E2.out
            simp at this
            exact HXY.out this
          rw [this]; rfl
      · have hke : k = xs.length := by omega
        have hk1 : decide ((k : Int) < xs.length) = false := by simp; omega
        have HKE : Hid _ := hke
        clear hke
        go_wp2
        go_ret
        refine ⟨?_, n, rfl⟩
        have : (xs == ys) = true := by
          have := hT.out
          rw [HKE.out, List.take_length, HL.out, List.take_length] at this
          rw [this]; simp
        rw [this]; rfl
  · have hl' : ((xs.length : Int) != (ys.length : Int)) = true := by simp; omega
    have hne : (xs == ys) = false := by
      rw [beq_eq_false_iff_ne]; rintro rfl; exact hl rfl
    rw [hne]
    clear hl hne
    go_enter Tryz.func33, Tryz.ntmps33
    go_wp2
    go_ret
    exact ⟨rfl, 0, rfl⟩
/-- .. at lengths and an answer that are written out. -/
theorem same_is (w : World) (A B : Option Addr) (ca cb : Nat) (xs ys : List Int) (n m : Nat) (r : Bool) (ha : Rd w A (ints xs)) (hb : Rd w B (ints ys)) (hn : xs.length = n) (hm : ys.length = m) (hx : n ≤ 1000000) (hy : m ≤ 1000000) (hr : (xs == ys) = r) :
    Calls Tryz.prog 33 #[.slice A n ca, .slice B m cb] w fun e w' => e = .returned (.bool r) ∧ Keeps (fun _ => False) w w' := by
  subst hn hm hr
  exact (same_any w A B ca cb xs ys ha hb (by unfold maxLen; omega) (by unfold maxLen; omega)).mono fun e w' ⟨h, n, hw⟩ => ⟨h, hw ▸ (Keeps.refl _ _).drewN n⟩
theorem rd_of_row {w : World} {x : Addr} {zs : List Int} (len : Nat) (hlen : len ≤ zs.length) (hc : ∀ i, i < zs.length → w.cell? (x.add i) = some (.int .i64 (zs.getD i 0))) : Rd w (some x) (ints (zs.take len)) := by
  intro j u hu
  have hj : j < (zs.take len).length := by
    rcases Nat.lt_or_ge j (zs.take len).length with h | h
    · exact h
    · rw [List.getElem?_eq_none (by rw [ints_length]; exact h)] at hu; cases hu
  rw [ints_get _ j hj] at hu
  cases hu
  simp only [List.length_take] at hj
  refine ⟨x, rfl, ?_⟩
  rw [hc j (by omega)]
  simp [List.getD_eq_getElem?_getD, List.getElem?_take, show j < len by omega]
end Go.Proofs.YtnheibcjcgacpaaGreatDoor
