/- The pool package's walks: New, ready, Free, Window, Owner, Copy. -/
import Derived.Test.YtcjdejhjbelggaaDoorShC
import Derived.Test.YtcjdejhjbelggaaDoorPoP
import Derived.Test.YtcjdejhjbelggaaDoorIntsA
set_option linter.unusedVariables false
set_option linter.unusedSimpArgs false
namespace Go.Proofs.YtcjdejhjbelggaaDoor
open Go.RowKit Go.ChangeMaps
namespace Po
/-- A slice that reads as these numbers. -/
def Row (w : World) (u : Value) (L : List Nat) : Prop := ∃ A cap, u = .slice A L.length cap ∧ L.length ≤ cap ∧ cap ≤ maxLen ∧ (A = none → L.length = 0 ∧ cap = 0) ∧ Rd w A (ints (zs L))
/-- What a pool may turn. -/
def Fp (p s : Nat) (v : Value) (x : Nat) : Prop := x = p ∨ Sh.Fp s v x
/-- A pool at p: its shelf at s, its windows' slices, its colours' owners. -/
structure At (w : World) (p s : Nat) (v : Value) (V : Nat → Value) (Of : List Int) : Prop where
  cells : w.heap[p]? = some (.cells #[.pointer (some ⟨s, 0, none⟩), V 0, V 1, V 2, V 3, V 4, V 5, V 6, V 7] 72 (0, 0))
  shelf : Sh.At w s v (fr Of)
  ne : ¬ Sh.Fp s v p
  row : ∀ i, i < 8 → Row w (V i) (win Of i)
  apart : ∀ i, i < 8 → ∀ g, (V i).ownBlock = some g → ¬ Fp p s v g
  len : Of.length ≤ 32
  off : ¬ Fp p s v 0
  vlt : ∀ i, i < 8 → ∀ g, (V i).ownBlock = some g → g < w.heap.size
theorem Row.keep {F : Nat → Prop} {w w' : World} {u : Value} {L : List Nat} (h : Row w u L) (hk : Keeps F w w') (hf : ∀ g, u.ownBlock = some g → ¬ F g) : Row w' u L := by
  obtain ⟨A, cap, rfl, h1, h2, h3, h4⟩ := h
  exact ⟨A, cap, rfl, h1, h2, h3, h4.keep hk fun ad e _ => hf _ (by rw [e]; rfl)⟩
theorem Row.old {w w' : World} {u : Value} {L : List Nat} (h : Row w u L) (hk : Keeps (fun _ => False) w w') : Row w' u L := h.keep hk (fun _ _ x => x)
theorem Row.lt {w : World} {u : Value} {L : List Nat} (h : Row w u L) (hL : L ≠ []) : ∀ g, u.ownBlock = some g → g < w.heap.size := by
  obtain ⟨A, cap, rfl, h1, h2, h3, h4⟩ := h
  intro g hg
  cases L with
  | nil => exact absurd rfl hL
  | cons c L =>
    obtain ⟨ad, e, hc⟩ := h4 0 (.int .i64 (c : Int)) rfl
    rw [e] at hg
    have hg' : some ad.block = some g := hg
    injection hg' with hg'
    rw [← hg']
    have hb := block_add ad 0
    rcases Nat.lt_or_ge ad.block w.heap.size with hh | hh
    · exact hh
    · simp only [World.cell?] at hc
      rw [hb, Array.getElem?_eq_none hh] at hc
      cases hc
theorem At.keep {F : Nat → Prop} {w w' : World} {p s : Nat} {v : Value} {V : Nat → Value} {Of : List Int} (h : At w p s v V Of) (hk : Keeps F w w') (hf : ∀ x, Fp p s v x → ¬ F x) (hv : ∀ i, i < 8 → ∀ g, (V i).ownBlock = some g → ¬ F g) : At w' p s v V Of :=
  ⟨hk.at h.cells (hf p (.inl rfl)), h.shelf.keep hk (fun x hx => hf x (.inr hx)), h.ne, fun i hi => (h.row i hi).keep hk (hv i hi), h.apart, h.len, h.off, fun i hi g hg => Nat.lt_of_lt_of_le (h.vlt i hi g hg) hk.size⟩
theorem At.old {w w' : World} {p s : Nat} {v : Value} {V : Nat → Value} {Of : List Int} (h : At w p s v V Of) (hk : Keeps (fun _ => False) w w') : At w' p s v V Of := h.keep hk (fun _ _ x => x) (fun _ _ _ _ x => x)
theorem eight {V : Nat → Value} {x : Value} {i : Nat} (hi : i < 8) : (#[x, V 0, V 1, V 2, V 3, V 4, V 5, V 6, V 7])[1 + i]? = some (V i) := by
  have : i = 0 ∨ i = 1 ∨ i = 2 ∨ i = 3 ∨ i = 4 ∨ i = 5 ∨ i = 6 ∨ i = 7 := by omega
  rcases this with rfl | rfl | rfl | rfl | rfl | rfl | rfl | rfl <;> rfl
theorem eight_set {V : Nat → Value} {x u : Value} {i : Nat} (hi : i < 8) : (#[x, V 0, V 1, V 2, V 3, V 4, V 5, V 6, V 7]).setIfInBounds (1 + i) u =
    #[x, if 0 = i then u else V 0, if 1 = i then u else V 1, if 2 = i then u else V 2, if 3 = i then u else V 3, if 4 = i then u else V 4, if 5 = i then u else V 5, if 6 = i then u else V 6, if 7 = i then u else V 7] := by
  have : i = 0 ∨ i = 1 ∨ i = 2 ∨ i = 3 ∨ i = 4 ∨ i = 5 ∨ i = 6 ∨ i = 7 := by omega
  rcases this with rfl | rfl | rfl | rfl | rfl | rfl | rfl | rfl <;> rfl
theorem At.win_at {w : World} {p s : Nat} {v : Value} {V : Nat → Value} {Of : List Int} (h : At w p s v V Of) {i : Nat} (hi : i < 8) : w.cell? ⟨p, 1 + i, none⟩ = some (V i) ∧ w.frozen? ⟨p, 1 + i, none⟩ = false :=
  ⟨cell_of h.cells (1 + i) (eight hi), free_of h.cells _⟩
theorem At.zero {w : World} {p s : Nat} {v : Value} {V : Nat → Value} {Of : List Int} (h : At w p s v V Of) : w.cell? ⟨p, 0, none⟩ = some (.pointer (some ⟨s, 0, none⟩)) := cell_of h.cells 0 rfl
theorem At.lt {w : World} {p s : Nat} {v : Value} {V : Nat → Value} {Of : List Int} (h : At w p s v V Of) {x : Nat} (hx : Fp p s v x) : x < w.heap.size := by
  rcases hx with rfl | hx
  · exact lt_of h.cells
  · exact h.shelf.lt hx

def rdy (o k : Int) : Int := if 0 ≤ o ∧ o < 8 ∧ 0 ≤ k then 0 else 12
set_option maxRecDepth 100000 in
set_option maxHeartbeats 1000000 in
theorem ready_any (w : World) (p : Nat) (o k : Int) :
    Calls Tryd.prog 33 #[.pointer (some ⟨p, 0, none⟩), .int .i64 o, .int .i64 k] w fun e w' => e = .returned (.int .i64 (rdy o k)) ∧ w = w' := by
  have hc : o < 0 ∨ (0 ≤ o ∧ 8 ≤ o) ∨ (0 ≤ o ∧ o < 8 ∧ k < 0) ∨ (0 ≤ o ∧ o < 8 ∧ 0 ≤ k) := by omega
  obtain ⟨r, hr⟩ : ∃ r, rdy o k = r := ⟨_, rfl⟩
  rw [hr]
  have HR := Hid.of hr
  clear hr
  rcases hc with h1 | ⟨h1, h2⟩ | ⟨h1, h2, h3⟩ | ⟨h1, h2, h3⟩
  · obtain rfl : r = 12 := by rw [← HR.out]; unfold rdy; rw [if_neg (by omega)]
    have d1 : decide (o < 0) = true := by simp; omega
    go_enter Tryd.func33, Tryd.ntmps33
    go_wp2
    go_ret
    exact ⟨rfl, rfl⟩
  · obtain rfl : r = 12 := by rw [← HR.out]; unfold rdy; rw [if_neg (by omega)]
    have d1 : decide (o < 0) = false := by simp; omega
    have d2 : decide (8 ≤ o) = true := by simp; omega
    go_enter Tryd.func33, Tryd.ntmps33
    go_wp2
    go_ret
    exact ⟨rfl, rfl⟩
  · obtain rfl : r = 12 := by rw [← HR.out]; unfold rdy; rw [if_neg (by omega)]
    have d1 : decide (o < 0) = false := by simp; omega
    have d2 : decide (8 ≤ o) = false := by simp; omega
    have d3 : decide (k < 0) = true := by simp; omega
    go_enter Tryd.func33, Tryd.ntmps33
    go_wp2
    go_ret
    exact ⟨rfl, rfl⟩
  · obtain rfl : r = 0 := by rw [← HR.out]; unfold rdy; rw [if_pos (by omega)]
    have d1 : decide (o < 0) = false := by simp; omega
    have d2 : decide (8 ≤ o) = false := by simp; omega
    have d3 : decide (k < 0) = false := by simp; omega
    go_enter Tryd.func33, Tryd.ntmps33
    go_wp2
    go_ret
    exact ⟨rfl, rfl⟩
set_option maxRecDepth 100000 in
theorem free_any (w : World) (p s : Nat) (v : Value) (V : Nat → Value) (Of : List Int) (h : At w p s v V Of) :
    Calls Tryd.prog 17 #[.pointer (some ⟨p, 0, none⟩)] w fun e w' => e = .returned (.int .i64 (win Of (-1)).length) ∧ w = w' := by
  have q := Sh.free_any w s v (fr Of) h.shelf
  rw [frees_fr] at q
  have c0 := h.zero
  clear h
  go_enter Tryd.func17, Tryd.ntmps17
  go_wp2_with fail
  refine q.mono ?_
  rintro e w1 ⟨rfl, rfl⟩
  go_wp2
  go_ret
  exact ⟨rfl, rfl⟩
/-- The window that is told. -/
def winR (Of : List Int) (o : Int) : List Nat := if 0 ≤ o ∧ o < 8 then win Of o else []
set_option maxRecDepth 100000 in
set_option maxHeartbeats 1000000 in
theorem window_any (w : World) (p s : Nat) (v : Value) (V : Nat → Value) (Of : List Int) (o : Int) (h : At w p s v V Of) :
    Calls Tryd.prog 14 #[.pointer (some ⟨p, 0, none⟩), .int .i64 o] w (CloneR w (winR Of o).length (ints (zs (winR Of o)))) := by
  have q := ready_any w p o 0
  unfold winR
  by_cases ho : 0 ≤ o ∧ o < 8
  · have e : rdy o 0 = 0 := by unfold rdy; rw [if_pos (by omega)]
    rw [e] at q
    rw [if_pos ho]
    obtain ⟨i, rfl⟩ : ∃ i : Nat, o = i := ⟨o.toNat, by omega⟩
    have hi : i < 8 := by omega
    have hii : (i : Int) < 8 := by omega
    obtain ⟨c1, -⟩ := h.win_at hi
    obtain ⟨A, cap, hV, h1, h2, h3, h4⟩ := h.row i hi
    rw [hV] at c1
    have hl := win_len Of i
    have hle := h.len
    have q2 := clone_ints w A (win Of i).length cap (ints (zs (win Of i))) h3 (by rw [ints_length, zs_length]) h4 (one_ints _) (by omega)
    clear h hV h1 h2 h3 h4 e ho hl hle
    go_enter Tryd.func14, Tryd.ntmps14
    go_wp2_with fail
    refine q.mono ?_
    rintro e w1 ⟨rfl, rfl⟩
    go_wp2_with fail
    refine q2.mono ?_
    rintro e w1 ⟨u, rfl, hF⟩
    have HF := Hid.of hF
    clear hF q q2
    go_wp2
    go_ret
    exact ⟨_, rfl, HF.out⟩
  · have e : rdy o 0 = 12 := by unfold rdy; rw [if_neg (by omega)]
    rw [e] at q
    rw [if_neg ho]
    clear h e ho
    go_enter Tryd.func14, Tryd.ntmps14
    go_wp2_with fail
    refine q.mono ?_
    rintro e w1 ⟨rfl, rfl⟩
    clear q
    go_wp2
    go_ret
    exact ⟨_, rfl, OutR.nil _ _ _ _, Keeps.refl _ _⟩
set_option maxRecDepth 100000 in
set_option maxHeartbeats 1000000 in
theorem ownerfn_any (w : World) (A : Option Addr) (n cap cb : Nat) (L : List Int) (x : Int) (hl : L.length = n) (hr : Rd w A (ints L)) (hn : n ≤ 1000000000) (hc : w.cell? ⟨cb, 0, none⟩ = some (.int .i64 x)) :
    Calls Tryd.prog 40 #[.slice A n cap, .pointer (some ⟨cb, 0, none⟩)] w fun e w' => e = .returned (.bool (decide (x ∈ L))) ∧ w = w' := by
  have q := contains_ints w A n cap L x hl hr hn
  clear hr hl
  go_enter Tryd.func40, Tryd.ntmps40
  go_wp2_with fail
  refine q.mono ?_
  rintro e w1 ⟨rfl, rfl⟩
  go_wp2
  go_ret
  exact ⟨rfl, rfl⟩
end Po
end Go.Proofs.YtcjdejhjbelggaaDoor
