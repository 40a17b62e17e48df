/- The class package's walks: Pages, Per of every kind. The place package's walks: Slots, step, Of, Find; heap.local. -/
import Derived.Test.YtnheibcjcgacpaaGreatDoorClA
import Derived.Deep.RegionHeld3
set_option linter.unusedVariables false
set_option linter.unusedSimpArgs false
namespace Go.Proofs.YtnheibcjcgacpaaGreatDoor
open Go.RowKit Go.ChangeMaps
namespace Pc
theorem w64 {x : Int} (h1 : -4000000000 ≤ x) (h2 : x ≤ 4000000000) : wrap64 x = x := by unfold wrap64; omega
theorem w64' {x : Int} {y : Nat} (h1 : x = y) (h2 : y ≤ 4000000000) : wrap64 x = y := by subst h1; exact w64 (by omega) (by omega)
def pgs (c : Nat) : Nat := if c < 8 then 1 else c - 7
def per (c : Nat) : Nat := if c < 8 then 512 / Cl.sm c else 0
def un (c : Nat) : Nat := if c < 8 then Cl.sm c else (c - 7) * 512
def nb (c : Nat) : Nat := if c < 8 then per c else 1
def slots (c : Nat) : Nat := 256 / pgs c
def addr (c s k : Nat) : Nat := 131072 * (c + 1) + s * (pgs c * 512) + k * un c
theorem pgs_range {c : Nat} (h : c < 24) : 1 ≤ pgs c ∧ pgs c ≤ 16 := by unfold pgs; split <;> omega
theorem per_range {c : Nat} (h : c < 8) : 2 ≤ per c ∧ per c ≤ 32 := by
  rcases Cl.eight_cases h with rfl | rfl | rfl | rfl | rfl | rfl | rfl | rfl <;> simp [per, Cl.sm]
theorem un_range {c : Nat} (h : c < 24) : 16 ≤ un c ∧ un c ≤ 8192 := by
  unfold un
  split
  · have := Cl.sm_pos (c := c) (by assumption); omega
  · omega
theorem un_unit {c : Nat} (h : c < 24) : Cl.unit (c : Int) = (un c : Int) := by
  unfold Cl.unit un
  rw [if_pos (by omega)]
  by_cases e : c < 8
  · rw [if_pos (by omega), if_pos e, Int.toNat_natCast]
  · rw [if_neg (by omega), if_neg e]; omega
theorem slots_range {c : Nat} (h : c < 24) : 16 ≤ slots c ∧ slots c ≤ 256 := by
  obtain ⟨h1, h2⟩ := pgs_range h
  unfold slots
  exact ⟨by rw [Nat.le_div_iff_mul_le (by omega)]; omega, Nat.div_le_self _ _⟩
theorem nb_max {c : Nat} (h : c < 24) : (if (1 : Int) < (per c : Int) then (per c : Int) else 1) = (nb c : Int) := by
  unfold nb
  by_cases e : c < 8
  · have := per_range e; rw [if_pos (by omega), if_pos e]
  · have : per c = 0 := by unfold per; rw [if_neg e]
    rw [this, if_neg (by omega), if_neg e]; rfl
theorem nb_range {c : Nat} (h : c < 24) : 1 ≤ nb c ∧ nb c ≤ 32 := by
  unfold nb
  split
  · have := per_range (c := c) (by assumption); omega
  · omega
set_option maxRecDepth 100000 in
theorem pages_any (w : World) (c : Nat) (h : c < 24) : Calls Tryz.prog 179 #[.int .i64 c] w fun e w' => e = .returned (.int .i64 (pgs c)) ∧ w = w' := by
  have q := Cl.within_any w c
  rw [show decide (0 ≤ (c : Int) ∧ (c : Int) < 24) = true by simp; omega] at q
  have hm := fun ts ty w => run_max_int (P := Tryz.prog) ts ty 1 ((c : Int) - 8 + 1) w
  have hi : (if (1 : Int) < (c : Int) - 8 + 1 then (c : Int) - 8 + 1 else 1) = (pgs c : Int) := by unfold pgs; split <;> split <;> omega
  rw [hi] at hm
  have w1 : wrap64 ((c : Int) - 8) = (c : Int) - 8 := w64 (by omega) (by omega)
  have w2 : wrap64 ((c : Int) - 8 + 1) = (c : Int) - 8 + 1 := w64 (by omega) (by omega)
  generalize pgs c = x at hm ⊢
  clear h hi
  go_enter Tryz.func179, Tryz.ntmps179
  go_wp2_with fail
  refine q.mono ?_
  rintro e w3 ⟨rfl, rfl⟩
  clear q
  go_wp2
  go_ret
  exact ⟨rfl, rfl⟩
theorem per_big (w : World) (c : Nat) (h8 : ¬ c < 8) (h : c < 24) : Calls Tryz.prog 93 #[.int .i64 c] w fun e w' => e = .returned (.int .i64 0) ∧ w = w' := by
  have q := Cl.within_any w c
  rw [show decide (0 ≤ (c : Int) ∧ (c : Int) < 24) = true by simp; omega] at q
  have t1 : decide ((8 : Int) ≤ (c : Int)) = true := by simp; omega
  have t2 : decide (8 ≤ c) = true := by simp; omega
  clear h h8
  go_enter Tryz.func93, Tryz.ntmps93
  go_wp2_with fail
  refine q.mono ?_
  rintro e w3 ⟨rfl, rfl⟩
  clear q
  go_wp2
  go_ret
  exact ⟨rfl, rfl⟩
theorem per_any (w : World) (c : Nat) (h : c < 24) : Calls Tryz.prog 93 #[.int .i64 c] w fun e w' => e = .returned (.int .i64 (per c)) ∧ w = w' := by
  by_cases e : c < 8
  · have := Cl.per_small w c e
    have hp : Cl.per (c : Int) = (per c : Int) := by unfold Cl.per per; rw [if_pos (by omega), if_pos e, Int.toNat_natCast]; rfl
    rw [hp] at this; exact this
  · have := per_big w c e h
    have hp : per c = 0 := by unfold per; rw [if_neg e]
    rw [hp]; exact this
theorem unit_any (w : World) (c : Nat) (h : c < 24) : Calls Tryz.prog 96 #[.int .i64 c] w fun e w' => e = .returned (.int .i64 (un c)) ∧ w = w' := by
  have := Cl.unit_any w c
  rw [un_unit h] at this; exact this
set_option maxRecDepth 100000 in
theorem slots_any (w : World) (c : Nat) (h : c < 24) : Calls Tryz.prog 182 #[.int .i64 c] w fun e w' => e = .returned (.int .i64 (slots c)) ∧ w = w' := by
  have q := pages_any w c h
  have hr := pgs_range h
  have hs := slots_range h
  have ht : (256 : Int).tdiv (pgs c : Int) = (slots c : Int) := by unfold slots; rw [Int.tdiv_eq_ediv_of_nonneg (by omega)]; rfl
  generalize slots c = s at ht hs ⊢
  generalize pgs c = x at q hr ht
  have t1 : ((x : Int) == 0) = false := by simp; omega
  have t2 : ¬ (x : Int) = 0 := by omega
  have t3 : ¬ x = 0 := by omega
  have i1 : IntKind.i64.wrap (s : Int) = s := IntWalk.i64_in _ (by omega)
  have i2 : wrap64 (s : Int) = s := w64 (by omega) (by omega)
  clear h hr hs
  go_enter Tryz.func182, Tryz.ntmps182
  go_wp2_with fail
  refine q.mono ?_
  rintro e w3 ⟨rfl, rfl⟩
  clear q
  go_wp2
  go_ret
  exact ⟨rfl, rfl⟩
set_option maxRecDepth 100000 in
theorem step_any (w : World) (c : Nat) (h : c < 24) : Calls Tryz.prog 183 #[.int .i64 c] w fun e w' => e = .returned (.int .i64 ((pgs c * 512 : Nat) : Int)) ∧ w = w' := by
  have q := pages_any w c h
  have hr := pgs_range h
  generalize pgs c = x at *
  have wx : wrap64 ((x : Int) * 512) = ((x * 512 : Nat) : Int) := w64' (by omega) (by omega)
  generalize x * 512 = y at *
  clear h hr
  go_enter Tryz.func183, Tryz.ntmps183
  go_wp2_with fail
  refine q.mono ?_
  rintro e w3 ⟨rfl, rfl⟩
  clear q
  go_wp2
  go_ret
  refine ⟨?_, rfl⟩
  show Ending.returned (.int .i64 (wrap64 ((x : Int) * 512))) = _
  rw [wx]
theorem of_arith {c s k S U : Nat} (hc : c < 24) (hs : s ≤ 256) (hk : k ≤ 512) (hS : S ≤ 8192) (hU : U ≤ 8192) :
    wrap64 ((c : Int) + 1) = ((c + 1 : Nat) : Int) ∧ wrap64 (131072 * ((c + 1 : Nat) : Int)) = ((131072 * (c + 1) : Nat) : Int) ∧ wrap64 ((s : Int) * (S : Int)) = ((s * S : Nat) : Int) ∧ wrap64 (((131072 * (c + 1) : Nat) : Int) + ((s * S : Nat) : Int)) = ((131072 * (c + 1) + s * S : Nat) : Int) ∧
      wrap64 ((k : Int) * (U : Int)) = ((k * U : Nat) : Int) ∧ wrap64 (((131072 * (c + 1) + s * S : Nat) : Int) + ((k * U : Nat) : Int)) = ((131072 * (c + 1) + s * S + k * U : Nat) : Int) := by
  have h1 : s * S ≤ 256 * 8192 := Nat.mul_le_mul hs hS
  have h2 : k * U ≤ 512 * 8192 := Nat.mul_le_mul hk hU
  refine ⟨w64' (by omega) (by omega), w64' (by omega) (by omega), w64' (by simp) (by omega), w64' (by omega) (by omega), w64' (by simp) (by omega), w64' (by omega) (by omega)⟩
def ofR (c s k : Nat) : Int × Int := if s < slots c ∧ k < nb c then ((addr c s k : Int), 0) else (0, 12)
set_option maxRecDepth 100000 in
set_option maxHeartbeats 1000000 in
theorem of_any (w : World) (c s k : Nat) (h : c < 24) (hs : s ≤ 256) (hk : k ≤ 512) : Calls Tryz.prog 83 #[.int .i64 c, .int .i64 s, .int .i64 k] w fun e w' => e = .returned (.tuple #[.int .i64 (ofR c s k).1, .int .i64 (ofR c s k).2]) ∧ w = w' := by
  have q1 := slots_any w c h
  have q2 := per_any w c h
  have q3 := step_any w c h
  have q4 := unit_any w c h
  have hm := fun ts ty w => run_max_int (P := Tryz.prog) ts ty 1 (per c : Int) w
  rw [nb_max h] at hm
  have hr := pgs_range h
  obtain ⟨a1, a2, a3, a4, a5, a6⟩ := of_arith (S := pgs c * 512) (U := un c) h hs hk (by omega) (un_range h).2
  have hA : addr c s k = 131072 * (c + 1) + s * (pgs c * 512) + k * un c := rfl
  rw [← hA] at a6
  unfold ofR
  have s1 : decide ((s : Int) < 0) = false := by simp
  have k1 : decide ((k : Int) < 0) = false := by simp
  generalize addr c s k = A at a6 ⊢
  generalize slots c = L at *
  generalize nb c = B at *
  generalize per c = Q at *
  generalize un c = U at *
  generalize pgs c * 512 = S at *
  by_cases hsl : s < L
  · have s2 : decide ((L : Int) ≤ (s : Int)) = false := by simp; omega
    by_cases hkl : k < B
    · rw [if_pos ⟨hsl, hkl⟩]
      have k2 : decide ((B : Int) ≤ (k : Int)) = false := by simp; omega
      have s2' : decide (L ≤ s) = false := by simp; omega
      have k2' : decide (B ≤ k) = false := by simp; omega
      clear h hs hk hr hA hsl hkl
      generalize 131072 * (c + 1) + s * S = X2 at *
      generalize 131072 * (c + 1) = X1 at *
      generalize s * S = X3 at *
      generalize k * U = X4 at *
      generalize c + 1 = X5 at *
      go_enter Tryz.func83, Tryz.ntmps83
      go_wp2_with fail
      refine q1.mono ?_
      rintro e w3 ⟨rfl, rfl⟩
      go_wp2_with fail
      refine q2.mono ?_
      rintro e w3 ⟨rfl, rfl⟩
      go_wp2_with fail
      refine q3.mono ?_
      rintro e w3 ⟨rfl, rfl⟩
      go_wp2_with fail
      refine q4.mono ?_
      rintro e w3 ⟨rfl, rfl⟩
      clear q1 q2 q3 q4
      go_wp2
      go_ret2
      refine ⟨?_, rfl⟩
      show Ending.returned (.tuple #[.int .i64 (wrap64 ((X2 : Int) + (X4 : Int))), .int .i64 0]) = _
      rw [a6]
    · rw [if_neg (fun x => hkl x.2)]
      have k2 : decide ((B : Int) ≤ (k : Int)) = true := by simp; omega
      have s2' : decide (L ≤ s) = false := by simp; omega
      have k2' : decide (B ≤ k) = true := by simp; omega
      clear h hs hk hr hA hsl hkl a1 a2 a3 a4 a5 a6 q3 q4
      go_enter Tryz.func83, Tryz.ntmps83
      go_wp2_with fail
      refine q1.mono ?_
      rintro e w3 ⟨rfl, rfl⟩
      go_wp2_with fail
      refine q2.mono ?_
      rintro e w3 ⟨rfl, rfl⟩
      clear q1 q2
      go_wp2
      go_ret2
      exact ⟨rfl, rfl⟩
  · rw [if_neg (fun x => hsl x.1)]
    have s2 : decide ((L : Int) ≤ (s : Int)) = true := by simp; omega
    have s2' : decide (L ≤ s) = true := by simp; omega
    clear h hs hk hr hA hsl a1 a2 a3 a4 a5 a6 q3 q4 hm q2
    go_enter Tryz.func83, Tryz.ntmps83
    go_wp2_with fail
    refine q1.mono ?_
    rintro e w3 ⟨rfl, rfl⟩
    clear q1
    go_wp2
    go_ret2
    exact ⟨rfl, rfl⟩
/-- The first local page of a slot. -/
def loc (c s : Nat) : Nat := 256 * (c + 1) + s * pgs c
theorem loc_addr (c s : Nat) : addr c s 0 / 512 = loc c s := by
  unfold addr loc
  have : 131072 * (c + 1) + s * (pgs c * 512) + 0 * un c = (256 * (c + 1) + s * pgs c) * 512 := by
    rw [Nat.zero_mul, Nat.add_zero, ← Nat.mul_assoc, Nat.add_mul]; omega
  rw [this, Nat.mul_div_cancel _ (by omega)]
theorem loc_range {c s : Nat} (h : c < 24) (hs : s < slots c) : 256 * (c + 1) ≤ loc c s ∧ loc c s + pgs c ≤ 256 * (c + 2) := by
  obtain ⟨h1, h2⟩ := pgs_range h
  have : (s + 1) * pgs c ≤ 256 := by
    have h3 : s + 1 ≤ 256 / pgs c := hs
    exact (Nat.le_div_iff_mul_le (by omega)).1 h3
  rw [Nat.add_mul] at this
  unfold loc
  omega
set_option maxRecDepth 100000 in
theorem local_any (w : World) (c s : Nat) (h : c < 24) (hs : s < slots c) : Calls Tryz.prog 88 #[.int .i64 c, .int .i64 s] w fun e w' => e = .returned (.int .i64 (loc c s)) ∧ w = w' := by
  have hs2 := slots_range h
  have q := of_any w c s 0 h (by omega) (by omega)
  have hb := nb_range h
  rw [show ofR c s 0 = ((addr c s 0 : Int), 0) from if_pos ⟨hs, by omega⟩] at q
  have ht : (addr c s 0 : Int).tdiv 512 = (loc c s : Int) := by rw [Int.tdiv_eq_ediv_of_nonneg (by omega), ← loc_addr]; rfl
  have hl := loc_range h hs
  generalize addr c s 0 = A at *
  have HL := Hid.of (show loc c s ≤ 6400 by omega)
  generalize loc c s = V at *
  have i1 : IntKind.i64.wrap (V : Int) = V := IntWalk.i64_in _ (by have := HL.out; omega)
  have i2 : wrap64 (V : Int) = V := w64 (by omega) (by have := HL.out; omega)
  have ht2 : (A : Int) / 512 = (V : Int) := by rw [← ht, Int.tdiv_eq_ediv_of_nonneg (by omega)]
  have ht3 : A / 512 = V := by omega
  clear h hs hs2 hb hl
  go_enter Tryz.func88, Tryz.ntmps88
  go_wp2_with fail
  refine q.mono ?_
  rintro e w3 ⟨rfl, rfl⟩
  clear q
  go_wp2
  go_ret
  exact ⟨rfl, rfl⟩
/-- Which block begins at an address. -/
def fc (a : Nat) : Nat := a / 131072 - 1
def fs (a : Nat) : Nat := a % 131072 / (pgs (fc a) * 512)
def fk (a : Nat) : Nat := a % 131072 % (pgs (fc a) * 512) / un (fc a)
def Begins (a : Nat) : Prop := 131072 ≤ a ∧ a < 3276800 ∧ fs a < slots (fc a) ∧ fk a < nb (fc a) ∧ addr (fc a) (fs a) (fk a) = a
instance (a : Nat) : Decidable (Begins a) := by unfold Begins; exact inferInstance
def findR (a : Int) : Option (Nat × Nat × Nat) := if 0 ≤ a ∧ Begins a.toNat then some (fc a.toNat, fs a.toNat, fk a.toNat) else none
def findV (r : Option (Nat × Nat × Nat)) : Value := match r with
  | some (c, s, k) => .tuple #[.int .i64 c, .int .i64 s, .int .i64 k, .int .i64 0]
  | none => .tuple #[.int .i64 0, .int .i64 0, .int .i64 0, .int .i64 4]
theorem find_arith {a : Nat} (h1 : 131072 ≤ a) (h2 : a < 3276800) : fc a < 24 ∧ fs a ≤ 256 ∧ fk a ≤ 512 := by
  have hc : fc a < 24 := by unfold fc; omega
  obtain ⟨p1, p2⟩ := pgs_range hc
  obtain ⟨u1, u2⟩ := un_range hc
  have hr : a % 131072 < 131072 := Nat.mod_lt _ (by omega)
  refine ⟨hc, ?_, ?_⟩
  · unfold fs
    have : a % 131072 / (pgs (fc a) * 512) < 257 := by
      rw [Nat.div_lt_iff_lt_mul (by omega)]
      have := Nat.mul_le_mul_left 257 (show 512 ≤ pgs (fc a) * 512 by omega)
      omega
    omega
  · unfold fk
    have h3 : a % 131072 % (pgs (fc a) * 512) < pgs (fc a) * 512 := Nat.mod_lt _ (by omega)
    have : a % 131072 % (pgs (fc a) * 512) / un (fc a) < 513 := by
      rw [Nat.div_lt_iff_lt_mul (by omega)]
      have := Nat.mul_le_mul_left 513 u1
      omega
    omega
set_option maxRecDepth 100000 in
set_option maxHeartbeats 1000000 in
theorem find_any (w : World) (a : Int) (ha : -9223372036854775808 ≤ a ∧ a ≤ 9223372036854775807) : Calls Tryz.prog 193 #[.int .i64 a] w fun e w' => e = .returned (findV (findR a)) ∧ Keeps (fun _ => False) w w' := by
  by_cases h1 : a < 131072
  · have hf : findR a = none := if_neg (fun h => by have := h.2.1; omega)
    rw [hf]
    have t1 : decide (a < 131072) = true := by simpa using h1
    clear h1 hf ha
    go_enter Tryz.func193, Tryz.ntmps193
    go_wp2
    refine bodyPost_ret (v := .tuple #[.int .i64 0, .int .i64 0, .int .i64 0, .int .i64 4]) ?_ ?_ ⟨rfl, Keeps.refl _ _⟩
    · simp [results, Tryz.results193, go_sem]
    · rfl
  · by_cases h2 : 3276800 ≤ a
    · have hf : findR a = none := if_neg (fun h => by have := h.2.2.1; omega)
      rw [hf]
      have t1 : decide (a < 131072) = false := by simpa using h1
      have t2 : decide (3276800 ≤ a) = true := by simpa using h2
      clear h1 h2 hf ha
      go_enter Tryz.func193, Tryz.ntmps193
      go_wp2
      refine bodyPost_ret (v := .tuple #[.int .i64 0, .int .i64 0, .int .i64 0, .int .i64 4]) ?_ ?_ ⟨rfl, Keeps.refl _ _⟩
      · simp [results, Tryz.results193, go_sem]
      · rfl
    · have t1 : decide (a < 131072) = false := by simpa using h1
      have t2 : decide (3276800 ≤ a) = false := by simpa using h2
      obtain ⟨a, rfl⟩ : ∃ n : Nat, a = n := ⟨a.toNat, by omega⟩
      have g1 : 131072 ≤ a := by omega
      have g2 : a < 3276800 := by omega
      obtain ⟨hc, hs, hk⟩ := find_arith g1 g2
      have hp := pgs_range hc
      have hu := un_range hc
      have q1 := step_any w (fc a) hc
      have q2 := fun wx => (step_any wx (fc a) hc).mono (fun e w' (h : _ ∧ wx = w') => And.intro h.1 h.2.symm)
      have q3 := fun wx => (unit_any wx (fc a) hc).mono (fun e w' (h : _ ∧ wx = w') => And.intro h.1 h.2.symm)
      have q4 := fun wx => of_any wx (fc a) (fs a) (fk a) hc hs hk
      have e1 : (a : Int).tdiv 131072 = ((a / 131072 : Nat) : Int) := by rw [Int.tdiv_eq_ediv_of_nonneg (by omega)]; rfl
      have e1' : (a : Int) / 131072 = ((a / 131072 : Nat) : Int) := rfl
      have e2 : ((a / 131072 : Nat) : Int) - 1 = (fc a : Int) := by unfold fc; omega
      have w1 : wrap64 (((a / 131072 : Nat) : Int) - 1) = (fc a : Int) := by rw [e2]; exact w64 (by omega) (by omega)
      have e3 : (a : Int).tmod 131072 = ((a % 131072 : Nat) : Int) := by rw [Int.tmod_eq_emod_of_nonneg (by omega)]; rfl
      have e3' : (a : Int) % 131072 = ((a % 131072 : Nat) : Int) := rfl
      obtain ⟨Rs, hRs⟩ : ∃ Rs, a % 131072 = Rs := ⟨_, rfl⟩
      obtain ⟨S, hS⟩ : ∃ S, pgs (fc a) * 512 = S := ⟨_, rfl⟩
      have hS0 : 512 ≤ S ∧ S ≤ 8192 := by omega
      have hRl : Rs < 131072 := by rw [← hRs]; exact Nat.mod_lt _ (by omega)
      have hfs : fs a = Rs / S := by unfold fs; rw [hRs, hS]
      have hfk : fk a = Rs % S / un (fc a) := by unfold fk; rw [hRs, hS]
      have e4 : (Rs : Int).tdiv (S : Int) = (fs a : Int) := by rw [Int.tdiv_eq_ediv_of_nonneg (by omega), hfs]; rfl
      have e4' : (Rs : Int) / (S : Int) = (fs a : Int) := by rw [hfs]; rfl
      have e5 : (Rs : Int).tmod (S : Int) = ((Rs % S : Nat) : Int) := by rw [Int.tmod_eq_emod_of_nonneg (by omega)]; rfl
      have e5' : (Rs : Int) % (S : Int) = ((Rs % S : Nat) : Int) := rfl
      have e6 : ((Rs % S : Nat) : Int).tdiv (un (fc a) : Int) = (fk a : Int) := by rw [Int.tdiv_eq_ediv_of_nonneg (by omega), hfk]; rfl
      have e6' : ((Rs % S : Nat) : Int) / (un (fc a) : Int) = (fk a : Int) := by rw [hfk]; rfl
      have hRS : Rs % S < 8192 := Nat.lt_of_lt_of_le (Nat.mod_lt _ (by omega)) hS0.2
      have hfd : findR (a : Int) = if Begins a then some (fc a, fs a, fk a) else none := by
        unfold findR
        rw [Int.toNat_natCast]
        by_cases hb : Begins a
        · rw [if_pos ⟨by omega, hb⟩, if_pos hb]
        · rw [if_neg (fun x => hb x.2), if_neg hb]
      have hBe : Begins a ↔ (fs a < slots (fc a) ∧ fk a < nb (fc a)) ∧ addr (fc a) (fs a) (fk a) = a := by
        unfold Begins
        exact ⟨fun h => ⟨⟨h.2.2.1, h.2.2.2.1⟩, h.2.2.2.2⟩, fun h => ⟨g1, g2, h.1.1, h.1.2, h.2⟩⟩
      have hofR : ofR (fc a) (fs a) (fk a) = if fs a < slots (fc a) ∧ fk a < nb (fc a) then ((addr (fc a) (fs a) (fk a) : Int), 0) else (0, 12) := rfl
      rw [hfd]
      rw [hRs] at e3 e3'
      rw [hS] at q1 q2
      have i1 : IntKind.i64.wrap (fs a : Int) = fs a := IntWalk.i64_in _ (by omega)
      have i2 : IntKind.i64.wrap (fk a : Int) = fk a := IntWalk.i64_in _ (by omega)
      have i3 : IntKind.i64.wrap ((Rs % S : Nat) : Int) = ((Rs % S : Nat) : Int) := IntWalk.i64_in _ (by omega)
      have i4 : IntKind.i64.wrap (Rs : Int) = (Rs : Int) := IntWalk.i64_in _ (by omega)
      have i5 : IntKind.i64.wrap ((a / 131072 : Nat) : Int) = ((a / 131072 : Nat) : Int) := IntWalk.i64_in _ (by omega)
      have i6 : wrap64 (fs a : Int) = fs a := w64 (by omega) (by omega)
      have i7 : wrap64 ((a / 131072 : Nat) : Int) = ((a / 131072 : Nat) : Int) := w64 (by omega) (by omega)
      have n1 : ¬ S = 0 := by omega
      have n2 : ((S : Int) == 0) = false := by simp; omega
      have n3 : ¬ un (fc a) = 0 := by omega
      have n4 : ((un (fc a) : Int) == 0) = false := by simp; omega
      have m1 : Rs / S = fs a := hfs.symm
      have m2 : Rs % S / un (fc a) = fk a := hfk.symm
      have HB := Hid.of (And.intro hBe hofR)
      clear g1 g2 hp hu hc hs hk e2 hS hRs hfs hfk hfd hBe hofR hRl hRS hS0 h1 h2 ha
      obtain ⟨A7, hA7⟩ : ∃ A7, a / 131072 = A7 := ⟨_, rfl⟩
      obtain ⟨A8, hA8⟩ : ∃ A8, a % 131072 = A8 := ⟨_, rfl⟩
      rw [hA7] at e1 e1' w1 i5 i7
      obtain ⟨M, hM⟩ : ∃ M, Rs % S = M := ⟨_, rfl⟩
      rw [hM] at e5 e5' e6 e6' i3 m2
      have HX := Hid.of (And.intro hA8 hM)
      clear hA8
      generalize ofR (fc a) (fs a) (fk a) = RR at *
      generalize fc a = c at *
      generalize fs a = s at *
      generalize fk a = k at *
      generalize un c = U at *
      have HQ := Hid.of (And.intro q2 q3)
      clear q2 q3
      by_cases hin : s < slots c ∧ k < nb c
      · have hR : RR = ((addr c s k : Int), 0) := by rw [HB.out.2, if_pos hin]
        rw [hR] at q4
        dsimp only at q4
        by_cases heq : addr c s k = a
        · have HR := Hid.of (show (if Begins a then some (c, s, k) else none) = some (c, s, k) from if_pos (HB.out.1.2 ⟨hin, heq⟩))
          rw [HR.out]
          clear HR
          have t3 : ((addr c s k : Int) != (a : Int)) = false := by rw [heq]; simp
          generalize addr c s k = AA at *
          clear hin heq hR
          go_enter Tryz.func193, Tryz.ntmps193
          go_wp2_with fail
          refine q1.mono ?_
          rintro e w3 ⟨rfl, rfl⟩
          clear q1
          go_wp2_with fail
          go_quiet (first | (go_at_call 183; exact Calls.quiet_of_same (HQ.out.1 _)) | (go_at_call 96; exact Calls.quiet_of_same (HQ.out.2 _)))
          go_wp2_with fail
          refine (q4 _).mono ?_
          rintro e w3 ⟨rfl, rfl⟩
          clear q4 t1 t2 e1 e1' w1 e3 e3' hA7 e4 e4' e5 e5' e6 e6'
          go_wp2
          refine bodyPost_ret (v := .tuple #[.int .i64 c, .int .i64 s, .int .i64 k, .int .i64 0]) ?_ ?_ ⟨?_, (Keeps.refl _ _).drewN _⟩
          · simp [results, Tryz.results193, go_sem]
          · rfl
          · rfl
        · have HR := Hid.of (show (if Begins a then some (c, s, k) else none) = none from if_neg (fun h => heq (HB.out.1.1 h).2))
          rw [HR.out]
          clear HR
          have t3 : ((addr c s k : Int) != (a : Int)) = true := by simp; omega
          have t4 : ¬ addr c s k = a := heq
          generalize addr c s k = AA at *
          clear hin heq hR
          go_enter Tryz.func193, Tryz.ntmps193
          go_wp2_with fail
          refine q1.mono ?_
          rintro e w3 ⟨rfl, rfl⟩
          clear q1
          go_wp2_with fail
          go_quiet (first | (go_at_call 183; exact Calls.quiet_of_same (HQ.out.1 _)) | (go_at_call 96; exact Calls.quiet_of_same (HQ.out.2 _)))
          go_wp2_with fail
          refine (q4 _).mono ?_
          rintro e w3 ⟨rfl, rfl⟩
          clear q4 t1 t2 e1 e1' w1 e3 e3' hA7 e4 e4' e5 e5' e6 e6'
          go_wp2
          refine bodyPost_ret (v := .tuple #[.int .i64 0, .int .i64 0, .int .i64 0, .int .i64 4]) ?_ ?_ ⟨?_, (Keeps.refl _ _).drewN _⟩
          · simp [results, Tryz.results193, go_sem]
          · rfl
          · rfl
      · have hR : RR = (0, 12) := by rw [HB.out.2, if_neg hin]
        rw [hR] at q4
        dsimp only at q4
        have HR := Hid.of (show (if Begins a then some (c, s, k) else none) = none from if_neg (fun h => hin (HB.out.1.1 h).1))
        rw [HR.out]
        clear HR
        clear hin hR
        go_enter Tryz.func193, Tryz.ntmps193
        go_wp2_with fail
        refine q1.mono ?_
        rintro e w3 ⟨rfl, rfl⟩
        clear q1
        go_wp2_with fail
        go_quiet (first | (go_at_call 183; exact Calls.quiet_of_same (HQ.out.1 _)) | (go_at_call 96; exact Calls.quiet_of_same (HQ.out.2 _)))
        go_wp2_with fail
        refine (q4 _).mono ?_
        rintro e w3 ⟨rfl, rfl⟩
        clear q4 t1 t2 e1 e1' w1 e3 e3' hA7 e4 e4' e5 e5' e6 e6'
        go_wp2
        refine bodyPost_ret (v := .tuple #[.int .i64 0, .int .i64 0, .int .i64 0, .int .i64 4]) ?_ ?_ ⟨?_, (Keeps.refl _ _).drewN _⟩
        · simp [results, Tryz.results193, go_sem]
        · rfl
        · rfl
end Pc
end Go.Proofs.YtnheibcjcgacpaaGreatDoor
