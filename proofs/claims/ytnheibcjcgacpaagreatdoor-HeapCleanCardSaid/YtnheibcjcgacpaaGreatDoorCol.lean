/- The colour package's walks: within, Colour, colour, Free, Give, Take. | The colour package's walks: Give, Take, Free. | The colour package's walks: Free, New. | The colour package's walks: Check, New. -/
import Derived.Test.YtnheibcjcgacpaaGreatDoorShel
import Derived.Test.YtnheibcjcgacpaaGreatDoorSame
import Derived.Test.YtnheibcjcgacpaaGreatDoorClA
import Derived.Deep.RegionHeld3
set_option linter.unusedVariables false
set_option linter.unusedSimpArgs false
/-! The colour package's walks: within, Colour, colour, Free, Give, Take. -/
namespace Go.Proofs.YtnheibcjcgacpaaGreatDoor
open Go.RowKit Go.ChangeMaps
namespace Co
/-- A map's places: the struct, the row of shelves, each shelf's block and words. -/
structure Pla where
  m : Nat
  u : Value
  b : Nat → Nat
  v : Nat → Value
/-- A map: pages, colours, and of each colour which pages are free. -/
structure CM where
  P : Nat
  C : Nat
  F : Nat → List Bool
def ptrs (p : Pla) (n : Nat) : List Value := (List.range n).map fun i => .pointer (some ⟨p.b i, 0, none⟩)
theorem ptrs_get (p : Pla) {n i : Nat} (h : i < n) : (ptrs p n)[i]? = some (.pointer (some ⟨p.b i, 0, none⟩)) := by simp [ptrs, h]
def Fp (p : Pla) (C : Nat) (x : Nat) : Prop := x = p.m ∨ p.u.ownBlock = some x ∨ ∃ i, i < C ∧ Sh.Fp (p.b i) (p.v i) x
structure At (w : World) (p : Pla) (M : CM) : Prop where
  cells : w.heap[p.m]? = some (.cells #[.int .i64 M.P, .int .i64 M.C, p.u] 188 (0, 0))
  row : Own w 150 1 p.u M.C (ptrs p M.C)
  sh : ∀ i, i < M.C → Sh.At w (p.b i) (p.v i) (M.F i)
  len : ∀ i, i < M.C → (M.F i).length = M.P / M.C
  apart : ∀ i j, i < M.C → j < M.C → i ≠ j → ∀ x, Sh.Fp (p.b i) (p.v i) x → ¬ Sh.Fp (p.b j) (p.v j) x
  nm : ∀ i, i < M.C → ∀ x, Sh.Fp (p.b i) (p.v i) x → x ≠ p.m ∧ p.u.ownBlock ≠ some x
  um : p.u.ownBlock ≠ some p.m
  c : 1 ≤ M.C ∧ M.C ≤ 32
  p : 1 ≤ M.P ∧ M.P ≤ 4096
  div : M.P % M.C = 0
theorem At.keep {F : Nat → Prop} {w w' : World} {p : Pla} {M : CM} (h : At w p M) (k : Keeps F w w') (hf : ∀ x, Fp p M.C x → ¬ F x) : At w' p M :=
  { h with
    cells := k.at h.cells (hf _ (.inl rfl))
    row := h.row.keep k (fun g hg => hf g (.inr (.inl hg)))
    sh := fun i hi => (h.sh i hi).keep k (fun x hx => hf x (.inr (.inr ⟨i, hi, hx⟩))) }
theorem At.old {w w' : World} {p : Pla} {M : CM} (h : At w p M) (k : Keeps (fun _ => False) w w') : At w' p M := h.keep k (fun _ _ x => x)
theorem At.lt {w : World} {p : Pla} {M : CM} (h : At w p M) {x : Nat} (hx : Fp p M.C x) : x < w.heap.size := by
  rcases hx with rfl | hx | ⟨i, hi, hx⟩
  · exact lt_of h.cells
  · exact h.row.lt hx
  · exact (h.sh i hi).lt hx
theorem At.three {w : World} {p : Pla} {M : CM} (h : At w p M) : w.cell? ⟨p.m, 0, none⟩ = some (.int .i64 M.P) ∧ w.cell? ⟨p.m, 1, none⟩ = some (.int .i64 M.C) ∧ w.cell? ⟨p.m, 2, none⟩ = some p.u := ⟨cell_of h.cells 0 rfl, cell_of h.cells 1 rfl, cell_of h.cells 2 rfl⟩
/-- The row's shape, the cell of a shelf. -/
theorem At.rowAt {w : World} {p : Pla} {M : CM} (h : At w p M) : ∃ g cap, p.u = .slice (some ⟨g, 0, none⟩) M.C cap ∧ ∀ i, i < M.C → w.cell? ⟨g, i, none⟩ = some (.pointer (some ⟨p.b i, 0, none⟩)) := by
  obtain ⟨A, cap, hv, hc, hn, hr⟩ := h.row.shape
  obtain ⟨g, hA, hg, e⟩ := hr 0 (by have := h.c; omega)
  refine ⟨g, cap, by rw [hv, hA], fun i hi => ?_⟩
  obtain ⟨g', hA', hg', e'⟩ := hr i (by omega)
  rw [hA] at hA'
  cases hA'
  rw [e', ptrs_get p hi]
theorem At.pc {w : World} {p : Pla} {M : CM} (h : At w p M) : M.P = M.P / M.C * M.C := by have := Nat.div_add_mod M.P M.C; rw [h.div] at this; rw [Nat.mul_comm]; omega
set_option maxRecDepth 100000 in
theorem within_any (w : World) (p : Pla) (M : CM) (x : Int) (h : At w p M) :
    Calls Tryz.prog 229 #[.pointer (some ⟨p.m, 0, none⟩), .int .i64 x] w fun e w' => e = .returned (.bool (decide (0 ≤ x ∧ x < M.P))) ∧ w = w' := by
  obtain ⟨c0, -, -⟩ := h.three
  clear h
  by_cases h1 : 0 ≤ x
  · have t1 : decide (0 ≤ x) = true := by simpa using h1
    have e : decide (0 ≤ x ∧ x < (M.P : Int)) = decide (x < (M.P : Int)) := by simp [h1]
    rw [e]
    clear e h1
    go_enter Tryz.func229, Tryz.ntmps229
    go_wp2
    go_ret
    exact ⟨rfl, rfl⟩
  · have t1 : decide (0 ≤ x) = false := by simpa using h1
    have e : decide (0 ≤ x ∧ x < (M.P : Int)) = false := by simp [h1]
    rw [e]
    clear e h1
    go_enter Tryz.func229, Tryz.ntmps229
    go_wp2
    go_ret
    exact ⟨rfl, rfl⟩
set_option maxRecDepth 100000 in
theorem colour_any (w : World) (p : Pla) (M : CM) (x : Int) (h : At w p M) :
    Calls Tryz.prog 113 #[.pointer (some ⟨p.m, 0, none⟩), .int .i64 x] w fun e w' => e = .returned (.bool (decide (0 ≤ x ∧ x < M.C))) ∧ w = w' := by
  obtain ⟨-, -, c2⟩ := h.three
  obtain ⟨g, cap, hu, -⟩ := h.rowAt
  rw [hu] at c2
  clear h hu
  by_cases h1 : 0 ≤ x
  · have t1 : decide (0 ≤ x) = true := by simpa using h1
    have e : decide (0 ≤ x ∧ x < (M.C : Int)) = decide (x < (M.C : Int)) := by simp [h1]
    rw [e]
    clear e h1
    go_enter Tryz.func113, Tryz.ntmps113
    go_wp2
    go_ret
    exact ⟨rfl, rfl⟩
  · have t1 : decide (0 ≤ x) = false := by simpa using h1
    have e : decide (0 ≤ x ∧ x < (M.C : Int)) = false := by simp [h1]
    rw [e]
    clear e h1
    go_enter Tryz.func113, Tryz.ntmps113
    go_wp2
    go_ret
    exact ⟨rfl, rfl⟩
def colr (M : CM) (x : Int) : Int := if 0 ≤ x ∧ x < M.P then x % M.C else -1
set_option maxRecDepth 100000 in
theorem Colour_any (w : World) (p : Pla) (M : CM) (x : Int) (h : At w p M) :
    Calls Tryz.prog 226 #[.pointer (some ⟨p.m, 0, none⟩), .int .i64 x] w fun e w' => e = .returned (.int .i64 (colr M x)) ∧ w = w' := by
  have q := within_any w p M x h
  obtain ⟨-, c1, -⟩ := h.three
  have hc := h.c
  unfold colr
  by_cases h1 : 0 ≤ x ∧ x < (M.P : Int)
  · rw [if_pos h1]
    have t1 : decide (0 ≤ x ∧ x < (M.P : Int)) = true := by simpa using h1
    rw [t1] at q
    have e1 : x.tmod (M.C : Int) = x % (M.C : Int) := Int.tmod_eq_emod_of_nonneg h1.1
    have e2 : ((M.C : Int) == 0) = false := by simp; omega
    have e3 : ¬ (M.C : Int) = 0 := by omega
    have e4 : ¬ M.C = 0 := by omega
    clear h t1 h1 hc
    go_enter Tryz.func226, Tryz.ntmps226
    go_wp2_with fail
    refine q.mono ?_
    rintro e w3 ⟨rfl, rfl⟩
    go_wp2
    go_ret
    exact ⟨rfl, rfl⟩
  · rw [if_neg h1]
    have t1 : decide (0 ≤ x ∧ x < (M.P : Int)) = false := by simpa using h1
    rw [t1] at q
    clear h t1 h1 hc
    go_enter Tryz.func226, Tryz.ntmps226
    go_wp2_with fail
    refine q.mono ?_
    rintro e w3 ⟨rfl, rfl⟩
    go_wp2
    go_ret
    exact ⟨rfl, rfl⟩
end Co
end Go.Proofs.YtnheibcjcgacpaaGreatDoor

/-! The colour package's walks: Give, Take, Free. -/
namespace Go.Proofs.YtnheibcjcgacpaaGreatDoor
open Go.RowKit Go.ChangeMaps
namespace Co
def up (F : Nat → List Bool) (c : Nat) (S : List Bool) : Nat → List Bool := fun i => if i = c then S else F i
theorem up_same (F : Nat → List Bool) (c : Nat) (S : List Bool) : up F c S c = S := by simp [up]
theorem up_other (F : Nat → List Bool) {c i : Nat} (S : List Bool) (h : i ≠ c) : up F c S i = F i := by simp [up, h]
/-- What a call of a map leaves. -/
def R (w : World) (p : Pla) (M' : CM) (w' : World) : Prop := At w' p M' ∧ Keeps (Fp p M'.C) w w'
theorem At.set {w w' : World} {p : Pla} {M : CM} (h : At w p M) {c : Nat} (hc : c < M.C) {S : List Bool} (hs : Sh.At w' (p.b c) (p.v c) S) (k : Keeps (Sh.Fp (p.b c) (p.v c)) w w') (hl : S.length = (M.F c).length) : R w p { M with F := up M.F c S } w' := by
  have hF : ∀ x, Sh.Fp (p.b c) (p.v c) x → Fp p M.C x := fun x hx => .inr (.inr ⟨c, hc, hx⟩)
  refine ⟨{ cells := k.at h.cells (fun hx => (h.nm c hc _ hx).1 rfl), row := h.row.keep k (fun g hg hx => (h.nm c hc _ hx).2 hg), sh := fun i hi => ?_, len := fun i hi => ?_, apart := h.apart, nm := h.nm, um := h.um, c := h.c, p := h.p, div := h.div }, k.mono (fun x _ hx => hF x hx)⟩
  · by_cases e : i = c
    · subst e; simp only [up_same]; exact hs
    · simp only [up_other _ _ e]; exact (h.sh i hi).keep k (fun x hx hy => h.apart i c hi hc e x hx hy)
  · by_cases e : i = c
    · subst e; simp only [up_same]; rw [hl]; exact h.len i hi
    · simp only [up_other _ _ e]; exact h.len i hi
theorem pg (M : CM) (h1 : 1 ≤ M.C) (hp : M.P = M.P / M.C * M.C) {x : Nat} (hx : x < M.P) : x % M.C < M.C ∧ x / M.C < M.P / M.C := ⟨Nat.mod_lt _ (by omega), by rw [Nat.div_lt_iff_lt_mul (by omega)]; omega⟩
def giveE (M : CM) (x : Nat) : Int := Sh.giveE (M.F (x % M.C)) ((x / M.C : Nat) : Int)
def give (M : CM) (x : Nat) : CM := { M with F := up M.F (x % M.C) (Sh.giveS (M.F (x % M.C)) ((x / M.C : Nat) : Int)) }
theorem giveS_len (S : List Bool) (k : Int) : (Sh.giveS S k).length = S.length := by unfold Sh.giveS; split <;> simp
def GiveR (w : World) (p : Pla) (M : CM) (x : Nat) (e : Ending) (w' : World) : Prop := e = .returned (.int .i64 (giveE M x)) ∧ R w p (give M x) w'
set_option maxRecDepth 100000 in
set_option maxHeartbeats 1000000 in
theorem give_any (w : World) (p : Pla) (M : CM) (x : Nat) (h : At w p M) (hx : x < M.P) :
    Calls Tryz.prog 135 #[.pointer (some ⟨p.m, 0, none⟩), .int .i64 x] w (GiveR w p M x) := by
  have q := within_any w p M x h
  have t1 : decide ((0 : Int) ≤ (x : Int) ∧ (x : Int) < (M.P : Int)) = true := by simp; exact hx
  rw [t1] at q
  obtain ⟨hc1, hc2⟩ := pg M h.c.1 h.pc hx
  obtain ⟨-, c1, c2⟩ := h.three
  obtain ⟨g, cap, hu, hr⟩ := h.rowAt
  have c3 := hr _ hc1
  rw [hu] at c2
  have qg := Sh.give_any w.drew (p.b (x % M.C)) (p.v (x % M.C)) (M.F (x % M.C)) ((x / M.C : Nat) : Int) ((h.sh _ hc1).old ((Keeps.refl _ _).drew))
  have HF := Hid.of (fun w' (h1 : Sh.At w' (p.b (x % M.C)) (p.v (x % M.C)) (Sh.giveS (M.F (x % M.C)) ((x / M.C : Nat) : Int))) k => h.set hc1 h1 k (giveS_len _ _))
  have HN := Hid.of (show ¬ Sh.Fp (p.b (x % M.C)) (p.v (x % M.C)) p.m ∧ ¬ Sh.Fp (p.b (x % M.C)) (p.v (x % M.C)) g from ⟨fun hy => (h.nm _ hc1 _ hy).1 rfl, fun hy => (h.nm _ hc1 _ hy).2 (by rw [hu]; rfl)⟩)
  have HL := Hid.of (show giveE M x = Sh.giveE (M.F (x % M.C)) ((x / M.C : Nat) : Int) ∧ give M x = { M with F := up M.F (x % M.C) (Sh.giveS (M.F (x % M.C)) ((x / M.C : Nat) : Int)) } from ⟨rfl, rfl⟩)
  have e1 : (x : Int).tmod (M.C : Int) = ((x % M.C : Nat) : Int) := by rw [Int.tmod_eq_emod_of_nonneg (by omega)]; rfl
  have e1' : (x : Int) % (M.C : Int) = ((x % M.C : Nat) : Int) := rfl
  have e2 : (x : Int).tdiv (M.C : Int) = ((x / M.C : Nat) : Int) := by rw [Int.tdiv_eq_ediv_of_nonneg (by omega)]; rfl
  have e2' : (x : Int) / (M.C : Int) = ((x / M.C : Nat) : Int) := rfl
  have hq : x / M.C ≤ 4096 := Nat.le_trans (Nat.div_le_self _ _) (by have := h.p; omega)
  have hCC := h.c
  obtain ⟨K, hK⟩ : ∃ K, x / M.C = K := ⟨_, rfl⟩
  obtain ⟨D, hD⟩ : ∃ D, x % M.C = D := ⟨_, rfl⟩
  rw [hK] at qg e2 e2' hq HF HL
  rw [hD] at qg e1 e1' c3 hc1 HF HL HN
  obtain ⟨Cc, hCc⟩ : ∃ Cc, M.C = Cc := ⟨_, rfl⟩
  have f3 : x % Cc = D := by rw [← hCc]; exact hD
  have f4 : x / Cc = K := by rw [← hCc]; exact hK
  have f1 : ¬ Cc = 0 := by omega
  have f2 : ((Cc : Int) == 0) = false := by simp; omega
  have hDC : D < Cc := by omega
  have hDi : (D : Int) < (Cc : Int) := by omega
  have hD0 : (0 : Int) ≤ (D : Int) := by omega
  have i1 : IntKind.i64.wrap (K : Int) = K := IntWalk.i64_in _ (by omega)
  have i2 : IntKind.i64.wrap (D : Int) = D := IntWalk.i64_in _ (by omega)
  rw [hCc] at c1 c2 e1 e1' e2 e2'
  clear h hx t1 hc2 hr hu hK hD hCc hCC
  go_enter Tryz.func135, Tryz.ntmps135
  go_wp2_with fail
  refine q.mono ?_
  rintro e w3 ⟨rfl, rfl⟩
  clear q
  go_wp2
  go_region_held3 (fun wx => wx.cell? ⟨p.m, 1, none⟩ = some (.int .i64 Cc) ∧ wx.cell? ⟨p.m, 2, none⟩ = some (.slice (some ⟨g, 0, none⟩) Cc cap) ∧ wx.cell? ⟨g, D, none⟩ = some (.pointer (some ⟨p.b D, 0, none⟩)))
    (first | exact ⟨c1, c2, c3⟩ | exact ⟨d1, d2, d3⟩)
    (first
      | (go_at_call 194; refine qg.mono ?_; clear qg; rintro e w4 ⟨rfl, h4, k4⟩; have d1 := keep_cell k4.of_drew HN.out.1 c1; have d2 := keep_cell k4.of_drew HN.out.1 c2; have d3 := keep_cell k4.of_drew HN.out.2 c3))
  have HR := Hid.of (HF.out w4 h4 k4.of_drew)
  clear h4 k4 d1 d2 d3 HF
  go_wp2
  go_ret
  obtain ⟨l1, l2⟩ := HL.out
  refine ⟨?_, ?_⟩
  · rw [l1]; rfl
  · rw [l2]; exact HR.out
/-- The lowest free page so far. -/
def stepB (M : CM) (b c : Int) : Int := if 0 ≤ c ∧ c < M.C then (match Sh.frees (M.F c.toNat) with
  | [] => b
  | k :: _ => if b < 0 ∨ (k : Int) * M.C + c < b then (k : Int) * M.C + c else b) else b
def best (M : CM) (W : List Int) : Int := W.foldl (stepB M) (-1)
theorem best_snoc (M : CM) (W : List Int) (c : Int) : best M (W ++ [c]) = stepB M (best M W) c := by simp [best]
/-- .. is none, or a free page of the window. -/
def Lo (M : CM) (W : List Int) (b : Int) : Prop := b = -1 ∨ ∃ c k : Nat, c < M.C ∧ (c : Int) ∈ W ∧ k ∈ Sh.frees (M.F c) ∧ b = ((k * M.C + c : Nat) : Int)
theorem lo_step {M : CM} {W : List Int} {b c : Int} (h : Lo M W b) : Lo M (W ++ [c]) (stepB M b c) := by
  have hold : Lo M (W ++ [c]) b := by
    rcases h with h | ⟨c', k, h1, h2, h3, h4⟩
    · exact .inl h
    · exact .inr ⟨c', k, h1, List.mem_append_left _ h2, h3, h4⟩
  unfold stepB
  split
  · rename_i hc
    split
    · exact hold
    · rename_i k r hf
      split
      · refine .inr ⟨c.toNat, k, by omega, ?_, by rw [hf]; exact List.mem_cons_self, ?_⟩
        · rw [Int.toNat_of_nonneg hc.1]; simp
        · have : ((k * M.C + c.toNat : Nat) : Int) = (k : Int) * M.C + (c.toNat : Int) := by simp
          rw [this, Int.toNat_of_nonneg hc.1]
      · exact hold
  · exact hold
theorem lo_fold {M : CM} : ∀ (W V : List Int) (b : Int), Lo M V b → Lo M (V ++ W) (W.foldl (stepB M) b)
  | [], V, b, h => by simpa using h
  | c :: W, V, b, h => by
    have := lo_fold W (V ++ [c]) _ (lo_step (c := c) h)
    simpa [List.append_assoc] using this
theorem lo_best (M : CM) (W : List Int) : Lo M W (best M W) := by
  have := lo_fold (M := M) W [] (-1) (.inl rfl)
  simpa [best] using this
theorem lo_range {M : CM} {W : List Int} {b : Int} (h : Lo M W b) (hl : ∀ i, i < M.C → (M.F i).length = M.P / M.C) (hp : M.P = M.P / M.C * M.C) : -1 ≤ b ∧ b < M.P := by
  rcases h with h | ⟨c, k, h1, h2, h3, h4⟩
  · omega
  · have hk := (Sh.mem_frees.1 h3).1
    rw [hl c h1] at hk
    have h5 : k + 1 ≤ M.P / M.C := hk
    have h6 := Nat.mul_le_mul_right M.C h5
    rw [Nat.add_mul] at h6
    omega
def takeE (M : CM) (W : List Int) : Int × Int := if best M W < 0 then (0, 13) else (best M W, 0)
def take (M : CM) (W : List Int) : CM := if best M W < 0 then M else { M with F := up M.F ((best M W).toNat % M.C) ((M.F ((best M W).toNat % M.C)).set ((best M W).toNat / M.C) false) }
theorem low_frees {S : List Bool} : (Sh.frees S = [] ∧ Sh.low S = -1) ∨ ∃ k r, Sh.frees S = k :: r ∧ Sh.low S = (k : Int) := by
  unfold Sh.low
  cases h : Sh.frees S with
  | nil => exact .inl ⟨rfl, rfl⟩
  | cons k r => exact .inr ⟨k, r, rfl, rfl⟩
theorem lo_at {M : CM} {W : List Int} {b : Nat} (h : Lo M W b) (hl : ∀ i, i < M.C → (M.F i).length = M.P / M.C) : b % M.C < M.C ∧ b / M.C < (M.F (b % M.C)).length ∧ (M.F (b % M.C)).getD (b / M.C) false = true ∧ ((b % M.C : Nat) : Int) ∈ W := by
  rcases h with h | ⟨c, k, h1, h2, h3, h4⟩
  · omega
  · have e : b = k * M.C + c := by omega
    have e1 : b % M.C = c := by rw [e, Nat.add_comm, Nat.add_mul_mod_self_right, Nat.mod_eq_of_lt h1]
    have e2 : b / M.C = k := by rw [e, Nat.add_comm, Nat.add_mul_div_right _ _ (by omega), Nat.div_eq_of_lt h1, Nat.zero_add]
    rw [e1, e2]
    obtain ⟨m1, m2⟩ := Sh.mem_frees.1 h3
    exact ⟨h1, m1, m2, h2⟩
def TakeR (w : World) (p : Pla) (M : CM) (W : List Int) (e : Ending) (w' : World) : Prop := e = .returned (.tuple #[.int .i64 (takeE M W).1, .int .i64 (takeE M W).2]) ∧ R w p (take M W) w'
theorem w64 {x : Int} (h1 : -4000000000 ≤ x) (h2 : x ≤ 4000000000) : wrap64 x = x := by unfold wrap64; omega
theorem w64' {x : Int} {y : Nat} (h1 : x = y) (h2 : y ≤ 4000000000) : wrap64 x = y := by subst h1; exact w64 (by omega) (by omega)
theorem w_q {Q C P : Nat} (h : Q + C ≤ P) (hp : P ≤ 4096) : wrap64 (Q : Int) = Q := w64 (by omega) (by omega)
theorem w_qc {Q C P c : Nat} (h : Q + C ≤ P) (hc : c < C) (hp : P ≤ 4096) : wrap64 ((Q : Int) + (c : Int)) = ((Q + c : Nat) : Int) := w64' (by omega) (by omega)
theorem take_snocI (W : List Int) (j : Nat) (h : j < W.length) : W.take (j + 1) = W.take j ++ [W.getD j 0] := by rw [List.take_add_one, List.getD_eq_getElem?_getD, List.getElem?_eq_getElem h]; rfl
set_option maxRecDepth 100000 in
set_option maxHeartbeats 2000000 in
theorem take_any (w : World) (p : Pla) (M : CM) (A : Option Addr) (ca : Nat) (W : List Int) (n : Nat) (h : At w p M) (hT : Sh.Tab w) (hn : W.length = n) (hr : Rd w A (ints W)) (hm : n ≤ 1000000) :
    Calls Tryz.prog 131 #[.pointer (some ⟨p.m, 0, none⟩), .slice A n ca] w (TakeR w p M W) := by
  obtain ⟨-, c1, c2⟩ := h.three
  obtain ⟨g, cap, hu, hrow⟩ := h.rowAt
  rw [hu] at c2
  have HH := Hid.of (And.intro h (And.intro hT (And.intro hn (And.intro hr hu))))
  have hCC := h.c
  have HRow := Hid.of hrow
  have HM := Hid.of (And.intro hm hCC)
  obtain ⟨Cc, hCc⟩ : ∃ Cc, M.C = Cc := ⟨_, rfl⟩
  rw [hCc] at c1 c2
  have HC := Hid.of hCc
  clear h hT hn hr hu hrow hm hCC hCc
  go_enter Tryz.func131, Tryz.ntmps131
  go_wp2
  go_loopw [6, 14] (fun b i wr => ∃ j : Nat, j ≤ n ∧ i = .int .i64 j ∧ b = .int .i64 (best M (W.take j)) ∧ wr = w) (fun b i _ => n - (intOf i).toNat)
  case atStart => exact ⟨0, by omega, rfl, rfl, rfl⟩
  case round =>
    obtain ⟨j, hj, rfl, rfl, rfl⟩ := hrel
    by_cases hlt : j < n
    · obtain ⟨b0, o0, s0, rfl, hc0⟩ := rd_int HH.out.2.2.2.1 j (by rw [HH.out.2.2.1]; exact hlt)
      have hjn : j < 1000000 := by have := HM.out.1; omega
      have hkd : decide ((j : Int) < (n : Int)) = true := by simp; omega
      have hst : best M (W.take (j + 1)) = stepB M (best M (W.take j)) (W.getD j 0) := by rw [take_snocI W j (by rw [HH.out.2.2.1]; exact hlt), best_snoc]
      have hlo := lo_range (lo_best M (W.take j)) HH.out.1.len HH.out.1.pc
      have hp := HH.out.1.p
      have HL := Hid.of (And.intro hlo hp)
      generalize W.getD j 0 = c at hc0 hst
      have qc := colour_any wr p M c HH.out.1
      generalize best M (W.take j) = B at hst HL ⊢
      clear hlo hp
      by_cases hcol : 0 ≤ c ∧ c < M.C
      · obtain ⟨c, rfl⟩ : ∃ k : Nat, c = k := ⟨c.toNat, by omega⟩
        have hcC : c < M.C := by omega
        have t1 : decide ((0 : Int) ≤ (c : Int) ∧ (c : Int) < (M.C : Int)) = true := by simp; exact hcC
        rw [t1] at qc
        have ql := Sh.lowest_any wr (p.b c) (p.v c) (M.F c) (HH.out.1.sh c hcC) HH.out.2.1
        have hcr := HRow.out c hcC
        have hlen := HH.out.1.len c hcC
        have hpc := HH.out.1.pc
        have hcc : c < Cc := by rw [← HC.out]; exact hcC
        have hci : (c : Int) < (Cc : Int) := by omega
        have hc00 : (0 : Int) ≤ (c : Int) := by omega
        unfold stepB at hst
        rw [if_pos ⟨by omega, by omega⟩, Int.toNat_natCast] at hst
        rcases low_frees (S := M.F c) with ⟨f1, f2⟩ | ⟨k, r, f1, f2⟩
        · rw [f1] at hst
          rw [f2] at ql
          have HB := Hid.of hst
          clear hst hcol f1 f2 t1 hlen hpc
          go_wp2_with fail
          refine qc.mono ?_
          rintro e w3 ⟨rfl, rfl⟩
          clear qc
          go_wp2_with fail
          refine ql.mono ?_
          rintro e w3 ⟨rfl, rfl⟩
          clear ql
          go_wp2
          go_roundw
          case rel => exact ⟨j + 1, by omega, by go_num, by rw [HB.out], by first | rfl | trivial⟩
          case measure => simp [intOf]; omega
        · rw [f1] at hst
          rw [f2] at ql
          dsimp only at hst
          have hk := (Sh.mem_frees.1 (show k ∈ Sh.frees (M.F c) by rw [f1]; exact List.mem_cons_self)).1
          rw [hlen] at hk
          have hkC : k * M.C + M.C ≤ M.P := by
            have h6 := Nat.mul_le_mul_right M.C (show k + 1 ≤ M.P / M.C from hk)
            rw [Nat.add_mul] at h6; omega
          obtain ⟨Q, hQ⟩ : ∃ Q, k * M.C = Q := ⟨_, rfl⟩
          rw [hQ] at hkC
          have eQ : (k : Int) * (M.C : Int) = (Q : Int) := by rw [← hQ]; simp
          rw [eQ] at hst
          have hp := HL.out
          have hbC := HM.out.2
          have wq : wrap64 ((k : Int) * (Cc : Int)) = (Q : Int) := by rw [← HC.out, eQ]; exact w_q hkC hp.2.2
          have wq2 : wrap64 ((Q : Int) + (c : Int)) = ((Q + c : Nat) : Int) := w_qc hkC hcC hp.2.2
          have eqc : (Q : Int) + (c : Int) = ((Q + c : Nat) : Int) := by omega
          rw [eqc] at hst
          have tk : decide ((0 : Int) ≤ (k : Int)) = true := by simp
          obtain ⟨Z, hZ⟩ : ∃ Z, Q + c = Z := ⟨_, rfl⟩
          rw [hZ] at hst wq2
          by_cases hb0 : B < 0
          · rw [if_pos (.inl hb0)] at hst
            have tb : decide (B < 0) = true := by simpa using hb0
            have HB := Hid.of hst
            clear hst hcol f1 f2 t1 hlen hpc hk hkC eQ hp hbC eqc hb0 hQ hZ
            go_wp2_with fail
            refine qc.mono ?_
            rintro e w3 ⟨rfl, rfl⟩
            clear qc
            go_wp2_with fail
            refine ql.mono ?_
            rintro e w3 ⟨rfl, rfl⟩
            clear ql
            go_wp2
            go_roundw
            case rel => exact ⟨j + 1, by omega, by go_num, by rw [HB.out]; first | rfl | rw [wq2], by first | rfl | trivial⟩
            case measure => simp [intOf]; omega
          · have tb : decide (B < 0) = false := by simpa using hb0
            by_cases hb1 : (Z : Int) < B
            · rw [if_pos (.inr hb1)] at hst
              have tz : decide ((Z : Int) < B) = true := by simpa using hb1
              have HB := Hid.of hst
              clear hst hcol f1 f2 t1 hlen hpc hk hkC eQ hp hbC eqc hb0 hb1 hQ hZ
              go_wp2_with fail
              refine qc.mono ?_
              rintro e w3 ⟨rfl, rfl⟩
              clear qc
              go_wp2_with fail
              refine ql.mono ?_
              rintro e w3 ⟨rfl, rfl⟩
              clear ql
              go_wp2
              go_roundw
              case rel => exact ⟨j + 1, by omega, by go_num, by rw [HB.out]; first | rfl | rw [wq2], by first | rfl | trivial⟩
              case measure => simp [intOf]; omega
            · rw [if_neg (by rintro (h | h); exact hb0 h; exact hb1 h)] at hst
              have tz : decide ((Z : Int) < B) = false := by simpa using hb1
              have HB := Hid.of hst
              clear hst hcol f1 f2 t1 hlen hpc hk hkC eQ hp hbC eqc hb0 hb1 hQ hZ
              go_wp2_with fail
              refine qc.mono ?_
              rintro e w3 ⟨rfl, rfl⟩
              clear qc
              go_wp2_with fail
              refine ql.mono ?_
              rintro e w3 ⟨rfl, rfl⟩
              clear ql
              go_wp2
              go_roundw
              case rel => exact ⟨j + 1, by omega, by go_num, by rw [HB.out], by first | rfl | trivial⟩
              case measure => simp [intOf]; omega
      · have t1 : decide (0 ≤ c ∧ c < (M.C : Int)) = false := by simpa using hcol
        rw [t1] at qc
        unfold stepB at hst
        rw [if_neg hcol] at hst
        have HB := Hid.of hst
        clear hst hcol t1
        go_wp2_with fail
        refine qc.mono ?_
        rintro e w3 ⟨rfl, rfl⟩
        clear qc
        go_wp2
        go_roundw
        case rel => exact ⟨j + 1, by omega, by go_num, by rw [HB.out], by first | rfl | trivial⟩
        case measure => simp [intOf]; omega
    · obtain rfl : j = n := by omega
      have hkd : decide ((j : Int) < (j : Int)) = false := by simp
      have hWt : W.take j = W := List.take_of_length_le (by rw [HH.out.2.2.1]; exact Nat.le_refl _)
      rw [hWt]
      have hlo := lo_best M W
      have hE : takeE M W = if best M W < 0 then (0, 13) else (best M W, 0) := rfl
      have hS : take M W = if best M W < 0 then M else { M with F := up M.F ((best M W).toNat % M.C) ((M.F ((best M W).toNat % M.C)).set ((best M W).toNat / M.C) false) } := rfl
      have HFin := Hid.of (And.intro hE hS)
      have hrg := lo_range hlo HH.out.1.len HH.out.1.pc
      clear hE hS hWt
      generalize best M W = B at hlo HFin hrg ⊢
      by_cases hb : B < 0
      · have tb : decide (B < 0) = true := by simpa using hb
        have HR : Hid (TakeR wr p M W (.returned (.tuple #[.int .i64 0, .int .i64 13])) wr) := by
          obtain ⟨hE, hS⟩ := HFin.out
          rw [if_pos hb] at hE hS
          exact Hid.of ⟨by rw [hE], by rw [hS]; exact ⟨HH.out.1, Keeps.refl _ _⟩⟩
        clear hlo hrg hb HFin hlt hj
        go_wp2
        go_ret2
        exact HR.out
      · obtain ⟨x, rfl⟩ : ∃ x : Nat, B = x := ⟨B.toNat, by omega⟩
        obtain ⟨a1, a2, a3, -⟩ := lo_at hlo HH.out.1.len
        have tb : decide ((x : Int) < 0) = false := by simp
        have hx : x < M.P := by omega
        have hP := HH.out.1.p
        have hCC := HM.out.2
        have c3 := HRow.out _ a1
        have qg := Sh.takeAt_any wr.drew (p.b (x % M.C)) (p.v (x % M.C)) (M.F (x % M.C)) (x / M.C) ((HH.out.1.sh _ a1).old ((Keeps.refl _ _).drew)) a2 a3
        have HF := Hid.of (fun w' (h1 : Sh.At w' (p.b (x % M.C)) (p.v (x % M.C)) ((M.F (x % M.C)).set (x / M.C) false)) k => HH.out.1.set a1 h1 k (by simp))
        have HN := Hid.of (show ¬ Sh.Fp (p.b (x % M.C)) (p.v (x % M.C)) p.m ∧ ¬ Sh.Fp (p.b (x % M.C)) (p.v (x % M.C)) g from ⟨fun hy => (HH.out.1.nm _ a1 _ hy).1 rfl, fun hy => (HH.out.1.nm _ a1 _ hy).2 (by rw [HH.out.2.2.2.2]; rfl)⟩)
        have HZ : Hid (takeE M W = ((x : Int), 0) ∧ take M W = { M with F := up M.F (x % M.C) ((M.F (x % M.C)).set (x / M.C) false) }) := by
          obtain ⟨hE, hS⟩ := HFin.out
          rw [if_neg hb] at hE hS
          rw [Int.toNat_natCast] at hS
          exact Hid.of ⟨hE, hS⟩
        have e1 : (x : Int).tmod (M.C : Int) = ((x % M.C : Nat) : Int) := by rw [Int.tmod_eq_emod_of_nonneg (by omega)]; rfl
        have e1' : (x : Int) % (M.C : Int) = ((x % M.C : Nat) : Int) := rfl
        have e2 : (x : Int).tdiv (M.C : Int) = ((x / M.C : Nat) : Int) := by rw [Int.tdiv_eq_ediv_of_nonneg (by omega)]; rfl
        have e2' : (x : Int) / (M.C : Int) = ((x / M.C : Nat) : Int) := rfl
        have hq : x / M.C ≤ 4096 := Nat.le_trans (Nat.div_le_self _ _) (by omega)
        obtain ⟨K, hK⟩ : ∃ K, x / M.C = K := ⟨_, rfl⟩
        obtain ⟨D, hD⟩ : ∃ D, x % M.C = D := ⟨_, rfl⟩
        rw [hK] at qg e2 e2' hq HF HZ
        rw [hD] at qg e1 e1' c3 a1 HF HN HZ
        have hCc := HC.out
        have f3 : x % Cc = D := by rw [← hCc]; exact hD
        have f4 : x / Cc = K := by rw [← hCc]; exact hK
        have f1 : ¬ Cc = 0 := by omega
        have f2 : ((Cc : Int) == 0) = false := by simp; omega
        have hDC : D < Cc := by omega
        have hDi : (D : Int) < (Cc : Int) := by omega
        have hD0 : (0 : Int) ≤ (D : Int) := by omega
        have i1 : IntKind.i64.wrap (K : Int) = K := IntWalk.i64_in _ (by omega)
        have i2 : IntKind.i64.wrap (D : Int) = D := IntWalk.i64_in _ (by omega)
        rw [hCc] at e1 e1' e2 e2'
        clear hlo hrg hb HFin hlt hj a2 a3 hx hP hCC hK hD hCc a1
        go_wp2
        go_region_held3 (fun wx => wx.cell? ⟨p.m, 1, none⟩ = some (.int .i64 Cc) ∧ wx.cell? ⟨p.m, 2, none⟩ = some (.slice (some ⟨g, 0, none⟩) Cc cap) ∧ wx.cell? ⟨g, D, none⟩ = some (.pointer (some ⟨p.b D, 0, none⟩)))
          (first | exact ⟨c1, c2, c3⟩ | exact ⟨d1, d2, d3⟩)
          (first
            | (go_at_call 180; refine qg.mono ?_; clear qg; rintro e w4 ⟨rfl, h4, k4⟩; have d1 := keep_cell k4.of_drew HN.out.1 c1; have d2 := keep_cell k4.of_drew HN.out.1 c2; have d3 := keep_cell k4.of_drew HN.out.2 c3))
        have HR := Hid.of (HF.out w4 h4 k4.of_drew)
        clear h4 k4 d1 d2 d3 HF
        go_wp2
        go_ret2
        obtain ⟨l1, l2⟩ := HZ.out
        refine ⟨?_, ?_⟩
        · rw [l1]; rfl
        · rw [l2]; exact HR.out
end Co
end Go.Proofs.YtnheibcjcgacpaaGreatDoor

/-! The colour package's walks: Free, New. -/
namespace Go.Proofs.YtnheibcjcgacpaaGreatDoor
open Go.RowKit Go.ChangeMaps
namespace Co
/-- How many pages of a window are free. -/
def nf (M : CM) (W : List Int) : Nat := ((List.range M.C).map fun (c : Nat) => if (c : Int) ∈ W then (Sh.frees (M.F c)).length else 0).sum
def bl (f : Nat → Bool) : Array Value := ((List.range 32).map fun i => Value.bool (f i)).toArray
theorem bl_get (f : Nat → Bool) {i : Nat} (h : i < 32) : (bl f)[i]? = some (.bool (f i)) := by simp [bl, h]
theorem bl_set (f : Nat → Bool) (c : Nat) (x : Bool) : (bl f).setIfInBounds c (.bool x) = bl (fun i => if i = c then x else f i) := by
  apply Array.ext'
  simp only [bl, Array.toList_setIfInBounds]
  apply List.ext_getElem?
  intro i
  rw [List.getElem?_set]
  by_cases hi : i < 32
  · by_cases e : c = i
    · subst e; simp [hi]
    · have e' : ¬ i = c := fun q => e q.symm
      simp [e, e', hi]
  · simp [hi]
    intro e; subst e; omega
theorem sum_upd (n : Nat) (f g : Nat → Nat) (c : Nat) (hc : c < n) (h : ∀ i, i < n → i ≠ c → g i = f i) (x : Nat) (hx : g c = f c + x) : ((List.range n).map g).sum = ((List.range n).map f).sum + x := by
  induction n with
  | zero => omega
  | succ n ih =>
    rw [List.range_succ, List.map_append, List.map_append, List.sum_append, List.sum_append]
    simp only [List.map_cons, List.map_nil, List.sum_cons, List.sum_nil]
    by_cases e : c = n
    · subst e
      have : ((List.range c).map g) = ((List.range c).map f) := List.map_congr_left (fun i hi => h i (by have := List.mem_range.1 hi; omega) (by have := List.mem_range.1 hi; omega))
      rw [this, hx]; omega
    · rw [ih (by omega) (fun i hi => h i (by omega)), h n (by omega) (fun q => e q.symm)]; omega
theorem nf_same {M : CM} {W : List Int} {c : Int} (h : ¬ (0 ≤ c ∧ c < M.C) ∨ c ∈ W) : nf M (W ++ [c]) = nf M W := by
  unfold nf
  congr 1
  refine List.map_congr_left (fun i hi => ?_)
  have hi := List.mem_range.1 hi
  have : ((i : Int) ∈ W ++ [c]) ↔ (i : Int) ∈ W := by
    constructor
    · intro h1
      rcases List.mem_append.1 h1 with h1 | h1
      · exact h1
      · simp only [List.mem_singleton] at h1
        rcases h with h | h
        · exact absurd ⟨by omega, by omega⟩ h
        · rw [h1]; exact h
    · exact fun h1 => List.mem_append_left _ h1
  by_cases e : (i : Int) ∈ W
  · rw [if_pos (this.2 e), if_pos e]
  · rw [if_neg (fun q => e (this.1 q)), if_neg e]
theorem nf_more {M : CM} {W : List Int} {c : Nat} (hc : c < M.C) (h : (c : Int) ∉ W) : nf M (W ++ [(c : Int)]) = nf M W + (Sh.frees (M.F c)).length := by
  unfold nf
  refine sum_upd M.C _ _ c hc (fun i hi hn => ?_) _ ?_
  · have : ((i : Int) ∈ W ++ [(c : Int)]) ↔ (i : Int) ∈ W := by
      constructor
      · intro h1
        rcases List.mem_append.1 h1 with h1 | h1
        · exact h1
        · simp only [List.mem_singleton] at h1; omega
      · exact fun h1 => List.mem_append_left _ h1
    by_cases e : (i : Int) ∈ W
    · rw [if_pos (this.2 e), if_pos e]
    · rw [if_neg (fun q => e (this.1 q)), if_neg e]
  · rw [if_pos (by simp), if_neg h]; omega
theorem sum_le (n : Nat) (f : Nat → Nat) (b : Nat) (h : ∀ i, i < n → f i ≤ b) : ((List.range n).map f).sum ≤ n * b := by
  induction n with
  | zero => simp
  | succ n ih =>
    rw [List.range_succ, List.map_append, List.sum_append]
    simp only [List.map_cons, List.map_nil, List.sum_cons, List.sum_nil]
    have := ih (fun i hi => h i (by omega))
    have := h n (by omega)
    rw [Nat.add_mul]; omega
theorem nf_le {M : CM} (W : List Int) (hl : ∀ i, i < M.C → (M.F i).length = M.P / M.C) (hp : M.P = M.P / M.C * M.C) : nf M W ≤ M.P := by
  have : nf M W ≤ M.C * (M.P / M.C) := sum_le _ _ _ (fun i hi => by
    split
    · rw [← hl i hi]; exact Sh.frees_le _
    · exact Nat.zero_le _)
  rw [Nat.mul_comm] at this
  omega
theorem bl_zero : bl (fun _ => false) = (#[.bool false, .bool false, .bool false, .bool false, .bool false, .bool false, .bool false, .bool false, .bool false, .bool false, .bool false, .bool false, .bool false, .bool false, .bool false, .bool false, .bool false, .bool false, .bool false, .bool false, .bool false, .bool false, .bool false, .bool false, .bool false, .bool false, .bool false, .bool false, .bool false, .bool false, .bool false, .bool false] : Array Value) := rfl
set_option maxRecDepth 100000 in
set_option maxHeartbeats 2000000 in
theorem free_any (w : World) (p : Pla) (M : CM) (A : Option Addr) (ca : Nat) (W : List Int) (n : Nat) (h : At w p M) (hn : W.length = n) (hr : Rd w A (ints W)) (hm : n ≤ 1000000) :
    Calls Tryz.prog 38 #[.pointer (some ⟨p.m, 0, none⟩), .slice A n ca] w fun e w' => e = .returned (.int .i64 (nf M W)) ∧ Keeps (fun _ => False) w w' := by
  obtain ⟨w1, hw1⟩ : ∃ w1, w.alloc (.cells #[.bool false, .bool false, .bool false, .bool false, .bool false, .bool false, .bool false, .bool false, .bool false, .bool false, .bool false, .bool false, .bool false, .bool false, .bool false, .bool false, .bool false, .bool false, .bool false, .bool false, .bool false, .bool false, .bool false, .bool false, .bool false, .bool false, .bool false, .bool false, .bool false, .bool false, .bool false, .bool false] 185) = w1 := ⟨_, rfl⟩
  have k1 : Keeps (fun _ => False) w w1 := by rw [← hw1]; exact (Keeps.refl _ _).alloc _
  have b1 : w1.heap[w.heap.size]? = some (.cells (bl fun _ => false) 185 (0, 0)) := by rw [← hw1, bl_zero]; exact alloc_new _ _
  obtain ⟨sb, hsb⟩ : ∃ sb, w.heap.size = sb := ⟨_, rfl⟩
  rw [hsb] at b1
  have HH := Hid.of (And.intro h (And.intro hn (And.intro hr (And.intro hm hsb))))
  have H1 := Hid.of (And.intro k1 b1)
  have hz : nf M [] = 0 := by
    unfold nf
    have : ((List.range M.C).map fun (c : Nat) => if (c : Int) ∈ ([] : List Int) then (Sh.frees (M.F c)).length else 0) = (List.range M.C).map (fun _ => 0) := List.map_congr_left (fun i _ => by simp)
    rw [this]
    induction M.C with
    | zero => rfl
    | succ n ih => rw [List.range_succ, List.map_append, List.sum_append, ih]; rfl
  have HZ := Hid.of hz
  clear h hn hr hm k1 b1 hz
  go_enter Tryz.func38, Tryz.ntmps38
  go_wp2
  clear hw1 hsb
  go_loopw [5, 14] (fun v i wr => ∃ (j : Nat) (f : Nat → Bool), j ≤ n ∧ i = .int .i64 j ∧ v = .int .i64 (nf M (W.take j)) ∧ Hid (Keeps (fun _ => False) w wr ∧ wr.heap[sb]? = some (.cells (bl f) 185 (0, 0)) ∧ ∀ c : Nat, c < M.C → f c = decide ((c : Int) ∈ W.take j))) (fun v i _ => n - (intOf i).toNat)
  case atStart => exact ⟨0, fun _ => false, by omega, rfl, by rw [List.take_zero, HZ.out]; rfl, Hid.of ⟨H1.out.1, H1.out.2, fun c _ => by simp⟩⟩
  case round =>
    clear H1
    obtain ⟨j, f, hj, rfl, rfl, HI⟩ := hrel
    by_cases hlt : j < n
    · have hA := HH.out.1.old HI.out.1
      obtain ⟨b0, o0, s0, rfl, hc0⟩ := rd_int (HH.out.2.2.1.old HI.out.1) j (by rw [HH.out.2.1]; exact hlt)
      have hjn : j < 1000000 := by have := HH.out.2.2.2.1; omega
      have hkd : decide ((j : Int) < (n : Int)) = true := by simp; omega
      have hst : W.take (j + 1) = W.take j ++ [W.getD j 0] := take_snocI W j (by rw [HH.out.2.1]; exact hlt)
      have hle := nf_le (M := M) (W.take (j + 1)) HH.out.1.len HH.out.1.pc
      have hp := HH.out.1.p
      have HLE := Hid.of (And.intro hle hp)
      have HC := Hid.of HH.out.1.c
      generalize W.getD j 0 = c at hc0 hst
      have qc := colour_any wr p M c hA
      have HST := Hid.of hst
      clear hst hle hp
      by_cases hcol : 0 ≤ c ∧ c < M.C
      · obtain ⟨c, rfl⟩ : ∃ k : Nat, c = k := ⟨c.toNat, by omega⟩
        have hcC : c < M.C := by omega
        have hc32 : c < 32 := by have := HC.out; omega
        have hc32i : (c : Int) < 32 := by omega
        have hc00 : (0 : Int) ≤ (c : Int) := by omega
        have t1 : decide ((0 : Int) ≤ (c : Int) ∧ (c : Int) < (M.C : Int)) = true := by simp; exact hcC
        rw [t1] at qc
        have y0 := cell_of HI.out.2.1 c (bl_get f hc32)
        have hfc := HI.out.2.2 c hcC
        by_cases hmem : (c : Int) ∈ W.take j
        · have ef : f c = true := by rw [hfc]; simpa using hmem
          rw [ef] at y0
          have HX : Hid (nf M (W.take (j + 1)) = nf M (W.take j) ∧ ∀ d : Nat, d < M.C → f d = decide ((d : Int) ∈ W.take (j + 1))) := Hid.of (by
            rw [HST.out]
            refine ⟨nf_same (.inr hmem), fun d hd => ?_⟩
            rw [HI.out.2.2 d hd]
            by_cases e : (d : Int) = c
            · rw [e]; simp [hmem]
            · simp [e])
          have HI2 := Hid.of (And.intro HI.out.1 HI.out.2.1)
          clear hA hcol t1 hfc hmem ef HI
          go_wp2_with fail
          refine qc.mono ?_
          rintro e w3 ⟨rfl, rfl⟩
          clear qc
          go_wp2
          go_roundw
          case rel => exact ⟨j + 1, f, by omega, by go_num, by rw [HX.out.1], Hid.of ⟨HI2.out.1, HI2.out.2, HX.out.2⟩⟩
          case measure => simp [intOf]; omega
        · have ef : f c = false := by rw [hfc]; simpa using hmem
          rw [ef] at y0
          have y1 : wr.frozen? ⟨sb, c, none⟩ = false := free_of HI.out.2.1 c
          have y2 := set_of HI.out.2.1 c (.bool true)
          have k3 : Keeps (fun x => x = sb) wr (wr.setCell ⟨sb, c, none⟩ (.bool true)) := (Keeps.refl _ _).setCell _ _ (.inl rfl)
          obtain ⟨w3, hw3⟩ : ∃ w3, wr.setCell ⟨sb, c, none⟩ (.bool true) = w3 := ⟨_, rfl⟩
          rw [hw3] at y2 k3
          have y2' : w3.heap[sb]? = some (.cells (bl (fun i => if i = c then true else f i)) 185 (0, 0)) := by
            rw [y2]
            have : (bl f).set! c (.bool true) = bl (fun i => if i = c then true else f i) := by rw [Array.set!_eq_setIfInBounds]; exact bl_set f c true
            first | rw [this] | (rw [bl_set])
          have kk3 : Keeps (fun _ => False) w w3 := HI.out.1.trans' k3 (fun x hx hl => by have hx : x = sb := hx; have := HH.out.2.2.2.2; omega)
          have hA3 := HH.out.1.old kk3
          obtain ⟨g, cap, hu, hrow⟩ := hA3.rowAt
          obtain ⟨-, d1, d2⟩ := hA3.three
          rw [hu] at d2
          have d3 := hrow c hcC
          have qf := Sh.free_any w3 (p.b c) (p.v c) (M.F c) (hA3.sh c hcC)
          have HX : Hid (nf M (W.take (j + 1)) = nf M (W.take j) + (Sh.frees (M.F c)).length ∧ ∀ d : Nat, d < M.C → (if d = c then true else f d) = decide ((d : Int) ∈ W.take (j + 1))) := Hid.of (by
            rw [HST.out]
            refine ⟨nf_more hcC hmem, fun d hd => ?_⟩
            by_cases e : d = c
            · subst e; simp
            · rw [if_neg e, HI.out.2.2 d hd]
              have : ¬ (d : Int) = c := by omega
              simp [this])
          obtain ⟨L, hL⟩ : ∃ L, (Sh.frees (M.F c)).length = L := ⟨_, rfl⟩
          rw [hL] at qf HX
          have wN : wrap64 ((nf M (W.take j) : Int) + (L : Int)) = ((nf M (W.take j) + L : Nat) : Int) := w64' (by omega) (by have h1 := HX.out.1; have h2 := HLE.out; rw [h1] at h2; omega)
          generalize nf M (W.take j) = N at wN HX ⊢
          have HI2 := Hid.of (And.intro kk3 y2')
          have hcMi : (c : Int) < (M.C : Int) := by omega
          clear hA hcol t1 hfc hmem ef HI y2 k3 y2' kk3 hA3 hu hrow hL d1
          go_wp2_with fail
          refine qc.mono ?_
          rintro e w4 ⟨rfl, rfl⟩
          clear qc
          go_wp2_with fail
          refine qf.mono ?_
          rintro e w4 ⟨rfl, rfl⟩
          clear qf
          go_wp2
          go_roundw
          case rel => exact ⟨j + 1, _, by omega, by go_num, by rw [HX.out.1]; first | rfl | rw [wN], Hid.of ⟨HI2.out.1, HI2.out.2, HX.out.2⟩⟩
          case measure => simp [intOf]; omega
      · have t1 : decide (0 ≤ c ∧ c < (M.C : Int)) = false := by simpa using hcol
        rw [t1] at qc
        have HX : Hid (nf M (W.take (j + 1)) = nf M (W.take j) ∧ ∀ d : Nat, d < M.C → f d = decide ((d : Int) ∈ W.take (j + 1))) := Hid.of (by
          rw [HST.out]
          refine ⟨nf_same (.inl hcol), fun d hd => ?_⟩
          rw [HI.out.2.2 d hd]
          have : ¬ (d : Int) = c := by rintro e; exact hcol ⟨by omega, by omega⟩
          simp [this])
        have HI2 := Hid.of (And.intro HI.out.1 HI.out.2.1)
        clear hA hcol t1 HI
        go_wp2_with fail
        refine qc.mono ?_
        rintro e w3 ⟨rfl, rfl⟩
        clear qc
        go_wp2
        go_roundw
        case rel => exact ⟨j + 1, f, by omega, by go_num, by rw [HX.out.1], Hid.of ⟨HI2.out.1, HI2.out.2, HX.out.2⟩⟩
        case measure => simp [intOf]; omega
    · obtain rfl : j = n := by omega
      have hkd : decide ((j : Int) < (j : Int)) = false := by simp
      have hWt : W.take j = W := List.take_of_length_le (by rw [HH.out.2.1]; exact Nat.le_refl _)
      rw [hWt]
      have HK := Hid.of HI.out.1
      clear hWt HI hlt hj
      go_wp2
      go_ret
      exact ⟨rfl, HK.out⟩
end Co
end Go.Proofs.YtnheibcjcgacpaaGreatDoor

/-! The colour package's walks: Check, New. -/
namespace Go.Proofs.YtnheibcjcgacpaaGreatDoor
open Go.RowKit Go.ChangeMaps
namespace Co
def Cfg (P C : Int) : Prop := 1 ≤ C ∧ C ≤ 32 ∧ 1 ≤ P ∧ P ≤ 4096 ∧ P % C = 0
set_option maxRecDepth 100000 in
set_option maxHeartbeats 1000000 in
theorem check_any (w : World) (P C : Int) : Calls Tryz.prog 175 #[.agg #[.int .i64 P, .int .i64 C]] w fun e w' => (Cfg P C → e = .returned (.int .i64 0)) ∧ (¬ Cfg P C → e = .returned (.int .i64 12)) ∧ Keeps (fun _ => False) w w' := by
  obtain ⟨w1, hw1⟩ : ∃ w1, w.alloc (.cells #[.int .i64 P, .int .i64 C] 23) = w1 := ⟨_, rfl⟩
  have k1 : Keeps (fun _ => False) w w1 := by rw [← hw1]; exact (Keeps.refl _ _).alloc _
  have b1 : w1.heap[w.heap.size]? = some (.cells #[.int .i64 P, .int .i64 C] 23 (0, 0)) := by rw [← hw1]; exact alloc_new _ _
  obtain ⟨cb, hcb⟩ : ∃ cb, w.heap.size = cb := ⟨_, rfl⟩
  rw [hcb] at b1
  have c0 := cell_of (v := .int .i64 P) b1 0 rfl
  have c1 := cell_of (v := .int .i64 C) b1 1 rfl
  have HK := Hid.of k1
  have hcase : Cfg P C ∨ (¬ Cfg P C ∧ (C < 1 ∨ (1 ≤ C ∧ 32 < C) ∨ (1 ≤ C ∧ C ≤ 32 ∧ P < 1) ∨ (1 ≤ C ∧ C ≤ 32 ∧ 1 ≤ P ∧ 4096 < P) ∨ (1 ≤ C ∧ C ≤ 32 ∧ 1 ≤ P ∧ P ≤ 4096 ∧ P % C ≠ 0))) := by
    unfold Cfg
    generalize P % C = R
    omega
  clear k1 b1
  rcases hcase with hc | ⟨hn, hc⟩
  · have HC := Hid.of hc
    obtain ⟨h1, h2, h3, h4, h5⟩ := hc
    have t1 : decide (C < 1) = false := by simp; omega
    have t2 : decide (32 < C) = false := by simp; omega
    have t3 : decide (P < 1) = false := by simp; omega
    have t4 : decide (4096 < P) = false := by simp; omega
    have e1 : P.tmod C = 0 := by rw [Int.tmod_eq_emod_of_nonneg (by omega)]; exact h5
    have e2 : (C == 0) = false := by simp; omega
    have e3 : ¬ C = 0 := by omega
    clear h1 h2 h3 h4
    go_enter Tryz.func175, Tryz.ntmps175
    go_wp2
    go_ret
    exact ⟨fun _ => rfl, fun h => absurd HC.out h, HK.out⟩
  · have HN := Hid.of hn
    clear hn
    rcases hc with h1 | ⟨h1, h2⟩ | ⟨h1, h2, h3⟩ | ⟨h1, h2, h3, h4⟩ | ⟨h1, h2, h3, h4, h5⟩
    · have t1 : decide (C < 1) = true := by simpa using h1
      go_enter Tryz.func175, Tryz.ntmps175
      go_wp2
      go_ret
      exact ⟨fun h => absurd h HN.out, fun _ => rfl, HK.out⟩
    · have t1 : decide (C < 1) = false := by simp; omega
      have t2 : decide (32 < C) = true := by simpa using h2
      go_enter Tryz.func175, Tryz.ntmps175
      go_wp2
      go_ret
      exact ⟨fun h => absurd h HN.out, fun _ => rfl, HK.out⟩
    · have t1 : decide (C < 1) = false := by simp; omega
      have t2 : decide (32 < C) = false := by simp; omega
      have t3 : decide (P < 1) = true := by simpa using h3
      go_enter Tryz.func175, Tryz.ntmps175
      go_wp2
      go_ret
      exact ⟨fun h => absurd h HN.out, fun _ => rfl, HK.out⟩
    · have t1 : decide (C < 1) = false := by simp; omega
      have t2 : decide (32 < C) = false := by simp; omega
      have t3 : decide (P < 1) = false := by simp; omega
      have t4 : decide (4096 < P) = true := by simpa using h4
      go_enter Tryz.func175, Tryz.ntmps175
      go_wp2
      go_ret
      exact ⟨fun h => absurd h HN.out, fun _ => rfl, HK.out⟩
    · have t1 : decide (C < 1) = false := by simp; omega
      have t2 : decide (32 < C) = false := by simp; omega
      have t3 : decide (P < 1) = false := by simp; omega
      have t4 : decide (4096 < P) = false := by simp; omega
      have e1 : (P.tmod C != 0) = true := by rw [Int.tmod_eq_emod_of_nonneg (by omega)]; simpa using h5
      have e1' : ¬ P.tmod C = 0 := by rw [Int.tmod_eq_emod_of_nonneg (by omega)]; exact h5
      have e2 : (C == 0) = false := by simp; omega
      have e3 : ¬ C = 0 := by omega
      clear h1 h2 h3 h4
      go_enter Tryz.func175, Tryz.ntmps175
      go_wp2
      go_ret
      exact ⟨fun h => absurd h HN.out, fun _ => rfl, HK.out⟩
set_option maxRecDepth 100000 in
set_option maxHeartbeats 1000000 in
theorem new_bad (w : World) (P C : Int) (h : ¬ Cfg P C) : Calls Tryz.prog 77 #[.agg #[.int .i64 P, .int .i64 C]] w fun e w' => e = .returned (.tuple #[.pointer none, .int .i64 12]) ∧ Keeps (fun _ => False) w w' := by
  obtain ⟨w1, hw1⟩ : ∃ w1, w.alloc (.cells #[.int .i64 P, .int .i64 C] 23) = w1 := ⟨_, rfl⟩
  have k1 : Keeps (fun _ => False) w w1 := by rw [← hw1]; exact (Keeps.refl _ _).alloc _
  have b1 : w1.heap[w.heap.size]? = some (.cells #[.int .i64 P, .int .i64 C] 23 (0, 0)) := by rw [← hw1]; exact alloc_new _ _
  obtain ⟨cb, hcb⟩ : ∃ cb, w.heap.size = cb := ⟨_, rfl⟩
  rw [hcb] at b1
  have c0 := cell_of (v := .int .i64 P) b1 0 rfl
  have c1 := cell_of (v := .int .i64 C) b1 1 rfl
  have q := check_any w1 P C
  have HH := Hid.of (And.intro k1 h)
  clear k1 b1 h
  go_enter Tryz.func77, Tryz.ntmps77
  go_wp2_with fail
  refine q.mono ?_
  rintro e w2 ⟨-, hq, k2⟩
  obtain rfl := hq HH.out.2
  have HK := Hid.of (HH.out.1.trans k2)
  clear q hq k2
  go_wp2
  go_ret2
  exact ⟨rfl, HK.out⟩
theorem slPtrs : SlT Tryz.prog 186 150 1 8 := SlT.mk' (z := .pointer none) Tryz.underlying186 (by kernel_rfl) rfl (by decide)
/-- A map that is being made. -/
structure NI (w : World) (m P C : Nat) (j : Nat) (u : Value) (b : Nat → Nat) (v : Nat → Value) (wr : World) : Prop where
  cells : wr.heap[m]? = some (.cells #[.int .i64 P, .int .i64 C, u] 188 (0, 0))
  row : Own wr 150 1 u j (ptrs ⟨m, u, b, v⟩ j)
  sh : ∀ i, i < j → Sh.At wr (b i) (v i) (List.replicate (P / C) true)
  apart : ∀ i i', i < j → i' < j → i ≠ i' → ∀ x, Sh.Fp (b i) (v i) x → ¬ Sh.Fp (b i') (v i') x
  nm : ∀ i, i < j → ∀ x, Sh.Fp (b i) (v i) x → x ≠ m ∧ u.ownBlock ≠ some x ∧ w.heap.size ≤ x
  um : u.ownBlock ≠ some m
  uf : ∀ g, u.ownBlock = some g → w.heap.size ≤ g
  mf : w.heap.size ≤ m
  keeps : Keeps (fun _ => False) w wr
theorem NI.old {w wr w2 : World} {m P C j : Nat} {u : Value} {b : Nat → Nat} {v : Nat → Value} (h : NI w m P C j u b v wr) (k : Keeps (fun _ => False) wr w2) : NI w m P C j u b v w2 :=
  ⟨k.at h.cells (fun x => x), h.row.keep k (fun _ _ x => x), fun i hi => (h.sh i hi).old k, h.apart, h.nm, h.um, h.uf, h.mf, h.keeps.trans k⟩
theorem ptrs_congr {p q : Pla} {n : Nat} (h : ∀ i, i < n → p.b i = q.b i) : ptrs p n = ptrs q n := List.map_congr_left (fun i hi => by rw [h i (List.mem_range.1 hi)])
theorem ptrs_succ (p : Pla) (n : Nat) : ptrs p (n + 1) = ptrs p n ++ [.pointer (some ⟨p.b n, 0, none⟩)] := by simp [ptrs, List.range_succ]
theorem NI.add {w wr w2 w3 w4 : World} {m P C j : Nat} {u u' : Value} {b : Nat → Nat} {v : Nat → Value} {s : Nat} {sv : Value} (h : NI w m P C j u b v wr) (k2 : Keeps (fun _ => False) wr w2) (hs : Sh.At w2 s sv (List.replicate (P / C) true)) (fs : ∀ x, Sh.Fp s sv x → wr.heap.size ≤ x)
    (o3 : Own w3 150 1 u' (j + 1) (ptrs ⟨m, u, b, v⟩ j ++ [.pointer (some ⟨s, 0, none⟩)])) (k3 : Keeps (fun x => u.ownBlock = some x) w2 w3) (at3 : u'.ownBlock = u.ownBlock ∨ u'.ownBlock = some (w2.heap.size + 1)) (hw4 : w3.setCell ⟨m, 2, none⟩ u' = w4) :
    NI w m P C (j + 1) u' (fun i => if i = j then s else b i) (fun i => if i = j then sv else v i) w4 := by
  have h2 := h.old k2
  have hmw : m < wr.heap.size := lt_of h.cells
  have c3 := k3.at h2.cells h2.um
  have c4 := set_of c3 2 u'
  have k4 : Keeps (fun x => x = m) w3 (w3.setCell ⟨m, 2, none⟩ u') := (Keeps.refl _ _).setCell _ _ (.inl rfl)
  rw [hw4] at c4 k4
  have s1 := h.keeps.size
  have s2 := k2.size
  have um' : u'.ownBlock ≠ some m := by
    rcases at3 with e | e
    · rw [e]; exact h.um
    · rw [e]; intro e; injection e with e; omega
  have hso : ∀ x, Sh.Fp s sv x → x ≠ m ∧ u.ownBlock ≠ some x := fun x hx => ⟨by have := fs x hx; omega, fun e => by have := h.row.lt e; have := fs x hx; omega⟩
  refine ⟨c4, ?_, fun i hi => ?_, fun i i' hi hi' hne x hx hy => ?_, fun i hi x hx => ?_, um', ?_, h.mf, ?_⟩
  · have e : ptrs ⟨m, u', fun i => if i = j then s else b i, fun i => if i = j then sv else v i⟩ (j + 1) = ptrs ⟨m, u, b, v⟩ j ++ [.pointer (some ⟨s, 0, none⟩)] := by
      rw [ptrs_succ]
      have : ptrs ⟨m, u', fun i => if i = j then s else b i, fun i => if i = j then sv else v i⟩ j = ptrs ⟨m, u, b, v⟩ j := ptrs_congr (fun i hi => (if_neg (by omega)))
      rw [this]; simp
    rw [e]
    exact o3.keep k4 (fun g hg e => by have e : g = m := e; rw [e] at hg; exact um' hg)
  · by_cases e : i = j
    · subst e
      simp only [if_pos]
      exact (hs.keep k3 (fun x hx hy => (hso x hx).2 hy)).keep k4 (fun x hx hy => (hso x hx).1 hy)
    · simp only [if_neg e]
      have hi' : i < j := by omega
      exact ((h2.sh i hi').keep k3 (fun x hx hy => (h.nm i hi' x hx).2.1 hy)).keep k4 (fun x hx hy => (h.nm i hi' x hx).1 hy)
  · by_cases e : i = j
    · by_cases e' : i' = j
      · omega
      · simp only [if_pos e] at hx; simp only [if_neg e'] at hy
        have := (h.sh i' (by omega)).lt hy; have := fs x hx; omega
    · simp only [if_neg e] at hx
      by_cases e' : i' = j
      · simp only [if_pos e'] at hy
        have := (h.sh i (by omega)).lt hx; have := fs x hy; omega
      · simp only [if_neg e'] at hy
        exact h.apart i i' (by omega) (by omega) hne x hx hy
  · have hu' : ∀ x, x < w2.heap.size → u.ownBlock ≠ some x → u'.ownBlock ≠ some x := by
      intro x hl hn
      rcases at3 with e | e
      · rw [e]; exact hn
      · rw [e]; intro e; injection e with e; omega
    by_cases e : i = j
    · simp only [if_pos e] at hx
      exact ⟨(hso x hx).1, hu' x (hs.lt hx) (hso x hx).2, by have := fs x hx; omega⟩
    · simp only [if_neg e] at hx
      obtain ⟨n1, n2, n3⟩ := h.nm i (by omega) x hx
      exact ⟨n1, hu' x (by have := (h.sh i (by omega)).lt hx; omega) n2, n3⟩
  · intro g hg
    rcases at3 with e | e
    · exact h.uf g (by rw [← e]; exact hg)
    · rw [e] at hg; injection hg with hg; omega
  · exact (h2.keeps.trans' k3 (fun x hx hl => by have := h.uf x hx; omega)).trans' k4 (fun x hx hl => by have hx : x = m := hx; have := h.mf; omega)
def NewR (w : World) (P C : Nat) (e : Ending) (w' : World) : Prop := ∃ p, e = .returned (.tuple #[.pointer (some ⟨p.m, 0, none⟩), .int .i64 0]) ∧ At w' p ⟨P, C, fun _ => List.replicate (P / C) true⟩ ∧ (∀ x, Fp p C x → w.heap.size ≤ x) ∧ Keeps (fun _ => False) w w'
set_option maxRecDepth 100000 in
set_option maxHeartbeats 2000000 in
theorem new_any (w : World) (P C : Nat) (h : Cfg P C) : Calls Tryz.prog 77 #[.agg #[.int .i64 P, .int .i64 C]] w (NewR w P C) := by
  obtain ⟨w1, hw1⟩ : ∃ w1, w.alloc (.cells #[.int .i64 P, .int .i64 C] 23) = w1 := ⟨_, rfl⟩
  have k1 : Keeps (fun _ => False) w w1 := by rw [← hw1]; exact (Keeps.refl _ _).alloc _
  have b1 : w1.heap[w.heap.size]? = some (.cells #[.int .i64 P, .int .i64 C] 23 (0, 0)) := by rw [← hw1]; exact alloc_new _ _
  obtain ⟨cb, hcb⟩ : ∃ cb, w.heap.size = cb := ⟨_, rfl⟩
  rw [hcb] at b1
  have c0 := cell_of (v := .int .i64 P) b1 0 rfl
  have c1 := cell_of (v := .int .i64 C) b1 1 rfl
  have q := check_any w1 P C
  have HH := Hid.of (And.intro k1 (And.intro h (And.intro b1 hcb)))
  clear k1 b1 h
  go_enter Tryz.func77, Tryz.ntmps77
  go_wp2_with fail
  refine q.mono ?_
  rintro e w2 ⟨hq, -, k2⟩
  obtain rfl := hq HH.out.2.1
  have b2 := k2.at HH.out.2.2.1 (fun x => x)
  have d0 := cell_of (v := .int .i64 (P : Int)) b2 0 rfl
  have d1 := cell_of (v := .int .i64 (C : Int)) b2 1 rfl
  obtain ⟨w3, hw3⟩ : ∃ w3, w2.alloc (.cells #[.int .i64 P, .int .i64 C, .slice none 0 0] 188) = w3 := ⟨_, rfl⟩
  have k3 : Keeps (fun _ => False) w2 w3 := by rw [← hw3]; exact (Keeps.refl _ _).alloc _
  have b3 : w3.heap[w2.heap.size]? = some (.cells #[.int .i64 P, .int .i64 C, .slice none 0 0] 188 (0, 0)) := by rw [← hw3]; exact alloc_new _ _
  obtain ⟨m, hm⟩ : ∃ m, w2.heap.size = m := ⟨_, rfl⟩
  rw [hm] at b3
  have HK2 := HH.out.1.trans k2
  have d0' := cell_of (v := .int .i64 (P : Int)) (k3.at b2 (fun x => x)) 0 rfl
  have d1' := cell_of (v := .int .i64 (C : Int)) (k3.at b2 (fun x => x)) 1 rfl
  have HI0 : Hid (NI w m P C 0 (.slice none 0 0) (fun _ => 0) (fun _ => .slice none 0 0) w3) := Hid.of ⟨b3, Own.nil _ _ _, fun i hi => by omega, fun i _ hi => by omega, fun i hi => by omega, by simp [Value.ownBlock], fun g hg => by simp [Value.ownBlock] at hg, by have := HK2.size; omega, HK2.trans k3⟩
  have HB := Hid.of (And.intro (k3.at b2 (fun x => x)) (show cb < w3.heap.size ∧ cb ≠ m from ⟨by have := lt_of b2; have := k3.size; omega, by have := lt_of b2; omega⟩))
  clear q hq k2 b2 k3 b3 HK2 c0 c1
  go_wp2
  clear hw1 hcb hw3 hm d0 d1
  go_loopw [18] (fun i wr => ∃ (j : Nat) (u : Value) (b : Nat → Nat) (v : Nat → Value), j ≤ C ∧ i = .int .i64 j ∧ Hid (NI w m P C j u b v wr ∧ wr.heap[cb]? = some (.cells #[.int .i64 P, .int .i64 C] 23 (0, 0)) ∧ u.ownBlock ≠ some cb)) (fun i _ => C - (intOf i).toNat)
  case atStart => exact ⟨0, _, _, _, by omega, rfl, Hid.of ⟨HI0.out, HB.out.1, by simp [Value.ownBlock]⟩⟩
  case round =>
    clear HI0 d0' d1'
    obtain ⟨j, u, b, v, hj, rfl, HI⟩ := hrel
    have hC32 : C ≤ 32 := by have := HH.out.2.1; unfold Cfg at this; omega
    by_cases hlt : j < C
    · have hkd : decide ((j : Int) < (C : Int)) = true := by simp; omega
      have d0 := cell_of (v := .int .i64 (P : Int)) HI.out.2.1 0 rfl
      have d1 := cell_of (v := .int .i64 (C : Int)) HI.out.2.1 1 rfl
      have e1 : (P : Int).tdiv (C : Int) = ((P / C : Nat) : Int) := by rw [Int.tdiv_eq_ediv_of_nonneg (by omega)]; rfl
      have e1' : (P : Int) / (C : Int) = ((P / C : Nat) : Int) := rfl
      have hP : P / C ≤ 4096 := Nat.le_trans (Nat.div_le_self _ _) (by have := HH.out.2.1; unfold Cfg at this; omega)
      have q := Sh.new_any wr (P / C) (by omega)
      unfold Sh.NewR at q
      obtain ⟨K, hK⟩ : ∃ K, P / C = K := ⟨_, rfl⟩
      rw [hK] at e1 e1' hP q
      have HKK := Hid.of hK
      have f1 : ¬ C = 0 := by omega
      have f2 : ((C : Int) == 0) = false := by simp; omega
      have f3 : ¬ (C : Int) = 0 := by omega
      have i1 : wrap64 (K : Int) = K := w64' rfl (by omega)
      have i2 : IntKind.i64.wrap (K : Int) = K := IntWalk.i64_in _ (by omega)
      clear hK hP
      go_wp2_with fail
      refine q.mono ?_
      rintro e w4 ⟨s, sv, rfl, hs, fs, k4⟩
      have HI4 := Hid.of (And.intro (HI.out.1.old k4) (And.intro hs (And.intro fs k4)))
      have z2 := cell_of (v := u) HI4.out.1.cells 2 rfl
      have o4 := HI4.out.1.row
      have HNC := Hid.of (show u.ownBlock ≠ some cb from HI.out.2.2)
      have hb4 := k4.at HI.out.2.1 (fun x => x)
      have HB4 := Hid.of hb4
      clear q hs fs k4 hb4 d0 d1 e1 e1'
      go_wp2_with (at_builtin; refine wpList_app1 slPtrs w4 rfl _ _ rfl u j (ptrs ⟨m, u, b, v⟩ j) rfl o4 [.pointer (some ⟨s, 0, none⟩)] rfl rfl (by simp [Value.oneCell']) (by unfold maxLen; omega) (by omega) ?_; intro u' w5 o5 k5 at5; obtain ⟨A5, cp5, hu5, -, -, -⟩ := o5.shape; have c5 := k5.at HI4.out.1.cells HI4.out.1.um; have y2 := cell_of (v := u) c5 2 rfl; have y3 := free_of c5 2; obtain ⟨w6, hw6⟩ : ∃ w6, w5.setCell ⟨m, 2, none⟩ u' = w6 := ⟨_, rfl⟩; have HI6 := Hid.of (show NI w m P C (j + 1) u' (fun i => if i = j then s else b i) (fun i => if i = j then sv else v i) w6 ∧ w6.heap[cb]? = some (.cells #[.int .i64 P, .int .i64 C] 23 (0, 0)) ∧ u'.ownBlock ≠ some cb from ⟨HI.out.1.add HI4.out.2.2.2 (by rw [HKK.out]; exact HI4.out.2.1) HI4.out.2.2.1 o5 k5 at5 hw6, (by rw [← hw6, set_other _ _ (fun e => HB.out.2.2 e)]; exact k5.at HB4.out (fun e => (by have := HI4.out.1.uf cb e; have := HH.out.2.2.2; have := HB.out.2.1; exact HNC.out e))), (fun e => at5.elim (fun h5 => HNC.out (h5.symm.trans e)) (fun h5 => (by rw [h5] at e; injection e with e; have := lt_of HB4.out; omega)))⟩); clear o5 k5 at5 c5; rw [hu5] at hw6 HI6 ⊢; clear hu5)
      clear z2 y2 y3 o4
      go_roundw
      case rel => exact ⟨j + 1, _, _, _, by omega, by go_num, HI6⟩
      case measure => simp [intOf]; omega
    · obtain rfl : j = C := by omega
      have hkd : decide ((j : Int) < (j : Int)) = false := by simp
      have hkdn : decide (j < j) = false := by simp
      have d0 := cell_of (v := .int .i64 (P : Int)) HI.out.2.1 0 rfl
      have d1 := cell_of (v := .int .i64 (j : Int)) HI.out.2.1 1 rfl
      go_wp2
      go_ret2
      have hI := HI.out.1
      have hc := HH.out.2.1
      unfold Cfg at hc
      refine ⟨⟨m, u, b, v⟩, rfl, ⟨hI.cells, hI.row, hI.sh, fun i hi => by simp, hI.apart, fun i hi x hx => ⟨(hI.nm i hi x hx).1, (hI.nm i hi x hx).2.1⟩, hI.um, ⟨by simp only; omega, by simp only; omega⟩, ⟨by simp only; omega, by simp only; omega⟩, ?_⟩, fun x hx => ?_, hI.keeps⟩
      · have := hc.2.2.2.2; simp only; omega
      · rcases hx with hx | hx | ⟨i, hi, hx⟩
        · have hx : x = m := hx; rw [hx]; exact hI.mf
        · exact hI.uf x hx
        · exact (hI.nm i hi x hx).2.2
end Co
end Go.Proofs.YtnheibcjcgacpaaGreatDoor
