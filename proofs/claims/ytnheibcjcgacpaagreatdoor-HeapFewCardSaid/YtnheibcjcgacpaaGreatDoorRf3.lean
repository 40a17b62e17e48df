/- The document's kinds (garthref03) and its pages for a quota (garthref05). -/
import Derived.Test.YtnheibcjcgacpaaGreatDoorPlc
set_option linter.unusedVariables false
set_option linter.unusedSimpArgs false
namespace Go.Proofs.YtnheibcjcgacpaaGreatDoor
open Go.RowKit Go.ChangeMaps
namespace Rf
open Pc
open Cl hiding per
theorem un_lt {c : Nat} (h : c < 8) : un c = sm c := by unfold un; rw [if_pos h]
theorem un_ge8 {c : Nat} (h : 8 ≤ c) : un c = (c - 7) * 512 := by unfold un; rw [if_neg (by omega)]
theorem kind_first {n : Int} {c : Nat} (h1 : 1 ≤ n) (hc : c < 24) (hb : ∀ j, j < c → (un j : Int) < n) (hn : n ≤ (un c : Int)) : kind n = c := by
  by_cases h8 : c < 8
  · have hn' : n ≤ (sm c : Int) := by rw [← un_lt h8]; exact hn
    refine kind_small h1 ?_ h8 (fun j hj => by rw [← un_lt (by omega)]; exact hb j hj) hn'
    rcases eight_cases h8 with rfl | rfl | rfl | rfl | rfl | rfl | rfl | rfl <;> simp [sm] at hn' <;> omega
  · have b7 := hb 7 (by omega)
    rw [un_lt (by omega)] at b7
    have e7 : sm 7 = 256 := rfl
    have bc := hb (c - 1) (by omega)
    rw [un_ge8 (by omega)] at hn
    have bc' : ((c - 8 : Nat) : Int) * 512 < n := by
      by_cases h9 : c = 8
      · subst h9; omega
      · rw [un_ge8 (by omega)] at bc
        have : c - 1 - 7 = c - 8 := by omega
        rw [this] at bc
        have e : (((c - 8) * 512 : Nat) : Int) = ((c - 8 : Nat) : Int) * 512 := by simp
        omega
    have e : (((c - 7) * 512 : Nat) : Int) = ((c - 7 : Nat) : Int) * 512 := by simp
    unfold kind
    rw [if_neg (by omega), if_pos (by omega)]
    omega
theorem kind_none {n : Int} (hb : ∀ j, j < 24 → (un j : Int) < n) : kind n = -1 := by
  have b := hb 23 (by omega)
  have e : un 23 = 8192 := rfl
  unfold kind
  rw [if_pos (by omega)]
theorem un_gt {c : Nat} (h8 : 8 ≤ c) (h : c < 24) : wrap64 (wrap64 ((c : Int) - 7) * 512) = (un c : Int) ∧ IntKind.i64.wrap (IntKind.i64.wrap ((c : Int) - 7) * 512) = (un c : Int) := by
  rw [un_ge8 h8]
  constructor
  · unfold wrap64; omega
  · rw [IntWalk.i64_in ((c : Int) - 7) (by omega), IntWalk.i64_in _ (by omega)]; omega
def KI (w : World) (v : Value) (e : Ending) (w' : World) : Prop := e = .returned v ∧ Keeps (fun _ => False) w w'
set_option maxRecDepth 100000 in
set_option maxHeartbeats 1000000 in
theorem unit_any (w : World) (c : Nat) (h : c < 24) : Calls Tryz.prog 81 #[.int .i64 c] w (KI w (.int .i64 (un c))) := by
  by_cases h8 : c < 8
  · rw [un_lt h8]
    rcases eight_cases h8 with rfl | rfl | rfl | rfl | rfl | rfl | rfl | rfl <;>
    · clear h h8
      simp only [sm, List.getD_cons_zero, List.getD_cons_succ]
      obtain ⟨w1, hw1⟩ : ∃ w1, w.alloc (.cells #[.int .i64 16, .int .i64 32, .int .i64 48, .int .i64 64, .int .i64 96, .int .i64 128, .int .i64 192, .int .i64 256] 3) = w1 := ⟨_, rfl⟩
      have k1 : Keeps (fun _ => False) w w1 := by rw [← hw1]; exact (Keeps.refl _ _).alloc _
      have b1 : w1.heap[w.heap.size]? = some (.cells #[.int .i64 16, .int .i64 32, .int .i64 48, .int .i64 64, .int .i64 96, .int .i64 128, .int .i64 192, .int .i64 256] 3 (0, 0)) := by rw [← hw1]; exact alloc_new _ _
      have c0 := cell_of (v := .int .i64 16) b1 0 rfl
      have c1 := cell_of (v := .int .i64 32) b1 1 rfl
      have c2 := cell_of (v := .int .i64 48) b1 2 rfl
      have c3 := cell_of (v := .int .i64 64) b1 3 rfl
      have c4 := cell_of (v := .int .i64 96) b1 4 rfl
      have c5 := cell_of (v := .int .i64 128) b1 5 rfl
      have c6 := cell_of (v := .int .i64 192) b1 6 rfl
      have c7 := cell_of (v := .int .i64 256) b1 7 rfl
      have HK := Hid.of k1
      clear k1 b1
      go_enter Tryz.func81, Tryz.ntmps81
      go_wp2
      go_ret
      exact ⟨rfl, HK.out⟩
  · obtain ⟨eu, eu'⟩ := un_gt (c := c) (by omega) h
    obtain ⟨u, hu⟩ : ∃ u, un c = u := ⟨_, rfl⟩
    rw [hu] at eu eu' ⊢
    obtain ⟨w1, hw1⟩ : ∃ w1, w.alloc (.cells #[.int .i64 16, .int .i64 32, .int .i64 48, .int .i64 64, .int .i64 96, .int .i64 128, .int .i64 192, .int .i64 256] 3) = w1 := ⟨_, rfl⟩
    have k1 : Keeps (fun _ => False) w w1 := by rw [← hw1]; exact (Keeps.refl _ _).alloc _
    have t1 : decide ((c : Int) < 0) = false := by simp
    have t2 : decide ((23 : Int) < (c : Int)) = false := by simp; omega
    have t2' : decide (23 < c) = false := by simp; omega
    have t3 : decide ((c : Int) < 8) = false := by simp; omega
    have t3' : decide (c < 8) = false := by simp; omega
    have HK := Hid.of k1
    clear k1 h8 h hu
    go_enter Tryz.func81, Tryz.ntmps81
    go_wp2
    go_ret
    refine ⟨?_, HK.out⟩
    show Ending.returned (.int .i64 (wrap64 (wrap64 ((c : Int) - 7) * 512))) = _
    rw [eu]
set_option maxRecDepth 100000 in
theorem per_any (w : World) (c : Nat) (h : c < 8) : Calls Tryz.prog 123 #[.int .i64 c] w (KI w (.int .i64 (per c))) := by
  have q := unit_any w c (by omega)
  unfold KI at q
  have hr := un_range (c := c) (by omega)
  have e0 : per c = 512 / un c := by unfold per; rw [if_pos h, un_lt h]
  rw [e0]
  obtain ⟨u, hu⟩ : ∃ u, un c = u := ⟨_, rfl⟩
  rw [hu] at q hr ⊢
  have t1 : decide ((c : Int) < 0) = false := by simp
  have t2 : decide ((7 : Int) < (c : Int)) = false := by simp; omega
  have t2' : decide (7 < c) = false := by simp; omega
  have f1 : ¬ u = 0 := by omega
  have f2 : ((u : Int) == 0) = false := by simp; omega
  have f3 : ¬ (u : Int) = 0 := by omega
  have e1 : (512 : Int).tdiv (u : Int) = ((512 / u : Nat) : Int) := by rw [Int.tdiv_eq_ediv_of_nonneg (by omega)]; rfl
  have e1' : (512 : Int) / (u : Int) = ((512 / u : Nat) : Int) := rfl
  have hd : 512 / u ≤ 512 := Nat.div_le_self _ _
  obtain ⟨d, hdd⟩ : ∃ d, 512 / u = d := ⟨_, rfl⟩
  rw [hdd] at e1 e1' hd ⊢
  have i1 : wrap64 (d : Int) = d := by unfold wrap64; omega
  have i2 : IntKind.i64.wrap (d : Int) = d := IntWalk.i64_in _ (by omega)
  clear h hr e0 hu hdd hd
  go_enter Tryz.func123, Tryz.ntmps123
  go_wp2_with fail
  refine q.mono ?_
  rintro e w1 ⟨rfl, k1⟩
  have HK := Hid.of k1
  clear q k1
  go_wp2
  go_ret
  exact ⟨rfl, HK.out⟩
set_option maxRecDepth 100000 in
set_option maxHeartbeats 1000000 in
theorem of_any (w : World) (n : Int) : Calls Tryz.prog 63 #[.int .i64 n] w (KI w (.int .i64 (kind n))) := by
  by_cases h1 : n < 1
  · have t1 : decide (n < 1) = true := by simpa using h1
    have e : kind n = -1 := by unfold kind; rw [if_pos (.inl h1)]
    rw [e]
    clear h1 e
    go_enter Tryz.func63, Tryz.ntmps63
    go_wp2
    go_ret
    exact ⟨rfl, Keeps.refl _ _⟩
  · have t1 : decide (n < 1) = false := by simpa using h1
    have HN := Hid.of (show 1 ≤ n by omega)
    have HR := Hid.of (show kind n = kind n from rfl)
    generalize hz : kind n = z at HR ⊢
    have HZ := Hid.of hz
    clear h1 hz HR
    go_enter Tryz.func63, Tryz.ntmps63
    go_wp2_with fail
    go_loopw [3] (fun i wr => ∃ c : Nat, c ≤ 24 ∧ i = .int .i64 c ∧ Keeps (fun _ => False) w wr ∧ Hid (∀ j, j < c → (un j : Int) < n)) (fun i _ => 24 - (intOf i).toNat)
    case atStart => exact ⟨0, by omega, rfl, Keeps.refl _ _, Hid.of (fun j hj => by omega)⟩
    case round =>
      obtain ⟨c, hc, rfl, hK, HB⟩ := hrel
      have HK := Hid.of hK
      clear hK
      by_cases hlt : c < 24
      · have hkd : decide ((c : Int) < 24) = true := by simp; omega
        have hkd' : decide (c < 24) = true := by simpa using hlt
        have q := unit_any wr c hlt
        unfold KI at q
        by_cases hu : n ≤ (un c : Int)
        · have t2 : decide (n ≤ (un c : Int)) = true := by simpa using hu
          have HF := Hid.of (show z = (c : Int) by rw [← HZ.out]; exact kind_first HN.out hlt HB.out hu)
          generalize un c = u at q t2
          clear hu
          go_wp2_with fail
          refine q.mono ?_
          rintro e w1 ⟨rfl, k1⟩
          have HK1 := Hid.of (HK.out.trans k1)
          clear q k1
          go_wp2
          go_ret
          exact ⟨by rw [HF.out]; rfl, HK1.out⟩
        · have t2 : decide (n ≤ (un c : Int)) = false := by simpa using hu
          have HB2 : Hid (∀ j, j < c + 1 → (un j : Int) < n) := Hid.of (fun j hj => by
            by_cases e : j = c
            · subst e; omega
            · exact HB.out j (by omega))
          generalize un c = u at q t2
          clear hu
          go_wp2_with fail
          refine q.mono ?_
          rintro e w1 ⟨rfl, k1⟩
          have HK1 := Hid.of (HK.out.trans k1)
          clear q k1
          go_wp2_with fail
          go_roundw
          case rel => exact ⟨c + 1, by omega, by go_num, HK1.out, HB2⟩
          case measure => simp [intOf]; omega
      · obtain rfl : c = 24 := by omega
        have HF := Hid.of (show z = -1 by rw [← HZ.out]; exact kind_none HB.out)
        go_wp2
        go_ret
        exact ⟨by rw [HF.out]; rfl, HK.out⟩
end Rf
end Go.Proofs.YtnheibcjcgacpaaGreatDoor
