/- great: do steps hold more than is played? -/
import Derived.Test.YtmlolkjgniodpaaScsC
set_option linter.unusedVariables false
set_option linter.unusedSimpArgs false
namespace Go.Proofs.Ytmlolkjgniodpaa
open Go.RowKit Go.ChangeMaps
attribute [-go_sem] run_index_string run_neq_struct run_eql_struct run_equalIn_agg
theorem run_min_int {P : Program} (ts : Array TypeId) (ty : TypeId) (x y : Int) (w : World) : (Builtin.min_ ts ty #[.int .i64 x, .int .i64 y]).run P w = .ok (.int .i64 (if y < x then y else x)) w := by
  simp [Builtin.min_, Builtin.min2]
namespace Scr
def gw (x : Stp) : Nat := 4 + min x.data.length 1048576
def gsum (L : List Stp) : Nat := (L.map gw).sum
theorem gsum_take (L : List Stp) (j : Nat) (x : Stp) (h : L[j]? = some x) : gsum (L.take (j + 1)) = gsum (L.take j) + gw x := by
  unfold gsum
  rw [List.take_add_one, h]
  simp
theorem gsum_le (L : List Stp) (j : Nat) : gsum (L.take j) ≤ gsum L := by
  unfold gsum
  have e := List.take_append_drop j L
  have h2 : (L.map gw).sum = ((L.take j).map gw).sum + ((L.drop j).map gw).sum := by
    rw [← List.sum_append, ← List.map_append, e]
  omega
theorem gsum_mem {L : List Stp} {x : Stp} (h : x ∈ L) : gw x ≤ gsum L := by
  unfold gsum
  induction L with
  | nil => simp at h
  | cons y L ih =>
    simp only [List.mem_cons] at h
    simp only [List.map_cons, List.sum_cons]
    rcases h with rfl | h
    · omega
    · have := ih h; omega
theorem gsum_len (L : List Stp) : 4 * L.length ≤ gsum L := by
  unfold gsum
  induction L with
  | nil => simp
  | cons x L ih =>
    simp only [List.map_cons, List.sum_cons, List.length_cons]
    have : 4 ≤ gw x := by unfold gw; omega
    omega
set_option maxRecDepth 100000 in
set_option maxHeartbeats 1000000 in
theorem great_any (w : World) (A : Option Addr) (cap : Nat) (L : List Stp) (q : Nat) (hq : L.length = q) (hr : Rd w A (stps L)) (hb : q ≤ 9223372036854775807) :
    Calls Try.prog 50 #[.slice A q cap] w fun e w' => e = .returned (.bool (decide (32768 < gsum L))) ∧ Keeps (fun _ => False) w w' := by
  obtain ⟨R, hR⟩ : ∃ R, decide (32768 < gsum L) = R := ⟨_, rfl⟩
  have HR := Hid.of hR
  rw [hR]
  clear hR
  go_enter Try.func50, Try.ntmps50
  go_wp2
  go_loopw [3, 8] (fun n i wr => ∃ (j s : Nat), j ≤ q ∧ i = .int .i64 j ∧ n = .int .i64 s ∧ s ≤ 32768 ∧ Hid (s = gsum (L.take j)) ∧ Keeps (fun _ => False) w wr) (fun _ i _ => q - (intOf i).toNat)
  case atStart => exact ⟨0, 0, by omega, rfl, rfl, by omega, Hid.of rfl, Keeps.refl _ _⟩
  case round =>
    obtain ⟨j, s, hj, rfl, rfl, hs, HS, K⟩ := hrel
    by_cases hlt : j < q
    · have r0 := hr.old K
      obtain ⟨b1, o1, s1, x1, x2, x3, x4, x5, x6, x7, hg, rfl, d0, d1, d2, d3, d4, d5, d6⟩ := rstp r0 j (by omega)
      have HT := Hid.of (gsum_take L j _ hg)
      have hlti : (j : Int) < (q : Int) := by omega
      have KKo : ∀ o, Keeps (fun _ => False) w (wr.alloc o) := fun o => K.alloc o
      have HKK := Hid.of KKo
      obtain ⟨m, hm⟩ : ∃ m : Nat, min x6.length 1048576 = m := ⟨_, rfl⟩
      have hm1 : m ≤ 1048576 := by omega
      have m1 : ∀ (ts : Array TypeId) (ty : TypeId) (w : World), (Builtin.min_ ts ty #[.int .i64 x6.length, .int .i64 1048576]).run Try.prog w = .ok (.int .i64 m) w := fun ts ty w => by rw [run_min_int]; congr 2; split <;> omega
      have HG : Hid (gsum (L.take (j + 1)) = s + (4 + m)) := Hid.of (by rw [HT.out, HS.out]; unfold gw; simp only []; omega)
      have HL := Hid.of (gsum_le L (j + 1))
      clear hg r0 hr K KKo HT hm
      by_cases hbig : 32768 < s + (4 + m)
      · have hbi : decide ((32768 : Int) < (s : Int) + (4 + (m : Int))) = true := by simp; omega
        have HRE : Hid (R = true) := Hid.of (by rw [← HR.out]; have := HL.out; rw [HG.out] at this; simp; omega)
        clear hbig
        go_wp2
        go_ret
        exact ⟨by rw [HRE.out]; rfl, HKK.out _⟩
      · have hbi : decide ((32768 : Int) < (s : Int) + (4 + (m : Int))) = false := by simp; omega
        have hbs : s + (4 + m) ≤ 32768 := by omega
        clear hbig
        go_wp2
        go_roundw
        case rel => exact ⟨j + 1, s + (4 + m), by omega, by go_num, by go_num, hbs, Hid.of HG.out.symm, HKK.out _⟩
        case measure => simp [intOf]; omega
    · have hje : j = q := by omega
      have hn1 : ¬ ((j : Int) < (q : Int)) := by omega
      have HRE : Hid (R = false) := Hid.of (by
        have e := HS.out
        rw [hje, ← hq, List.take_length] at e
        rw [← HR.out, ← e]; simp; omega)
      have HK := Hid.of K
      clear hje hr K
      go_wp2
      go_ret
      exact ⟨by rw [HRE.out]; rfl, HK.out⟩
end Scr
end Go.Proofs.Ytmlolkjgniodpaa
