/- The shelf package's walks: Free, within, turn, Lowest, Taken. | The shelf package's walks: Take, Give, New, Copy. | The shelf package's walks: Copy, New. | The shelf package's walks: TakeAt of a free number, Size. | The shelf package's walk: Free. -/
import Derived.Test.YtnheibcjcgacpaaGreatDoorRows
import Derived.Test.YtnheibcjcgacpaaGreatDoorRd
import Derived.Test.YtnheibcjcgacpaaGreatDoorOut
import Derived.Test.YtnheibcjcgacpaaGreatDoorShP
import Derived.Laws.Bits64b
import Derived.Laws.BitsAllLaws
import Derived.Shelf.Spec.TrailingZeros
import Derived.WalkSpells
import Derived.WalkLawsBesides
import Derived.BigQuiet
import Derived.BigRegion
import Derived.Deep.QuietTactic
import Derived.Test.YtnheibcjcgacpaaGreatDoorApp
import Derived.Deep.RegionHeld3
set_option linter.unusedVariables false
set_option linter.unusedSimpArgs false
/-! The shelf package's walks: Free, within, turn, Lowest, Taken. | The shelf package's walks: Take, Give, New, Copy. | The shelf package's walks: Copy, New. -/
/-! The shelf package's walks: Free, within, turn, Lowest, Taken. -/
namespace Go.Proofs.YtnheibcjcgacpaaGreatDoor
open Go.RowKit Go.ChangeMaps
namespace Sh
/-- The library's table, as its initialiser lays it. -/
def Tab (w : World) : Prop := ∀ j, j < 64 → w.cell? ⟨0, j, none⟩ = some (.int .u8 (Lib.deBruijn64tab.getD j 0))
theorem Tab.lt {w : World} (h : Tab w) : 0 < w.heap.size := by
  have := h 0 (by decide)
  rcases Nat.lt_or_ge 0 w.heap.size with hh | hh
  · exact hh
  · simp only [World.cell?] at this
    rw [Array.getElem?_eq_none hh] at this
    cases this
theorem Tab.same {w w' : World} (h : Tab w) (e : w'.heap[0]? = w.heap[0]?) : Tab w' := fun j hj => by
  have := h j hj
  simp only [World.cell?] at this ⊢
  rw [e]; exact this
theorem Tab.keep {F : Nat → Prop} {w w' : World} (h : Tab w) (hk : Keeps F w w') (hf : ¬ F 0) : Tab w' := h.same (hk.block _ h.lt hf)
theorem Tab.old {w w' : World} (h : Tab w) (hk : Keeps (fun _ => False) w w') : Tab w' := h.keep hk (fun x => x)
set_option maxRecDepth 100000 in
set_option maxHeartbeats 1000000 in
theorem tz_core (x k idx : Nat) (w : World) (hx0 : ((x : Int) == 0) = false)
    (key : IntKind.u64.wrap (bits BinOp.and IntKind.u64 (x : Int) (IntKind.u64.wrap (-(x : Int))) * 285870213051353865) / 288230376151711744 = (idx : Int))
    (hi : idx < 64) (hk : k < 64) (hcell : w.cell? ⟨0, idx, none⟩ = some (.int .u8 k)) :
    Calls Tryz.prog 265 #[.int .u64 x] w fun e w' => e = .returned (.int .i64 k) ∧ w = w' := by
  go_enter Tryz.func265, Tryz.ntmps265
  go_wp2_with (simp only [key])
  go_ret
  exact ⟨rfl, rfl⟩
theorem tz_any (w : World) (x : Nat) (h0 : x ≠ 0) (hx : x < 18446744073709551616) (hT : Tab w) :
    Calls Tryz.prog 265 #[.int .u64 x] w fun e w' => e = .returned (.int .i64 (Lib.ctz 64 x)) ∧ w = w' := by
  obtain ⟨hlow, hk⟩ := Lib.lowest_bit 64 x h0 hx
  obtain ⟨hi, htab⟩ := Lib.deBruijn64_at _ hk
  have hcell := hT _ hi
  rw [htab] at hcell
  exact tz_core x _ _ w (by simp; omega) (tz64_key x _ hx h0 hlow) hi hk hcell

def u64s (ws : List Nat) : List Value := ws.map fun x : Nat => .int .u64 (x : Int)
theorem u64s_length (ws : List Nat) : (u64s ws).length = ws.length := by simp [u64s]
theorem slWords : SlT Tryz.prog 109 92 1 8 := SlT.mk' (z := .int .u64 0) Tryz.underlying109 (by kernel_rfl) rfl (by decide)
/-- A shelf at b, its words in v; S: is a number free? -/
structure At (w : World) (b : Nat) (v : Value) (S : List Bool) : Prop where
  words : ∃ ws, Bits ws S ∧ Own w 92 1 v ws.length (u64s ws)
  cells : w.heap[b]? = some (.cells #[v, .int .i64 S.length, .int .i64 (frees S).length] 259 (0, 0))
  own : v.ownBlock ≠ some b
  len : S.length ≤ 65536
/-- What a call of it may turn. -/
def Fp (b : Nat) (v : Value) (x : Nat) : Prop := x = b ∨ v.ownBlock = some x
theorem At.keep {F : Nat → Prop} {w w' : World} {b : Nat} {v : Value} {S : List Bool} (h : At w b v S) (hk : Keeps F w w') (hf : ∀ x, Fp b v x → ¬ F x) : At w' b v S := by
  obtain ⟨⟨ws, h1, h2⟩, h3, h4, h5⟩ := h
  exact ⟨⟨ws, h1, h2.keep hk fun g hg => hf g (.inr hg)⟩, hk.at h3 (hf b (.inl rfl)), h4, h5⟩
theorem At.old {w w' : World} {b : Nat} {v : Value} {S : List Bool} (h : At w b v S) (hk : Keeps (fun _ => False) w w') : At w' b v S := h.keep hk (fun _ _ x => x)
theorem At.lt {w : World} {b : Nat} {v : Value} {S : List Bool} (h : At w b v S) {x : Nat} (hx : Fp b v x) : x < w.heap.size := by
  rcases hx with rfl | hx
  · exact lt_of h.cells
  · obtain ⟨ws, _, h2⟩ := h.words; exact h2.lt hx
theorem At.shape {w : World} {b : Nat} {v : Value} {S : List Bool} (h : At w b v S) : ∃ ws A cap, v = .slice A ws.length cap ∧ Bits ws S ∧ ws.length ≤ 1024 ∧ Own w 92 1 v ws.length (u64s ws) := by
  obtain ⟨ws, h1, h2⟩ := h.words
  obtain ⟨A, cap, hv, _⟩ := h2.shape
  have := h1.len
  have := h.len
  exact ⟨ws, A, cap, hv, h1, by omega, h2⟩
theorem At.three {w : World} {b : Nat} {v : Value} {S : List Bool} (h : At w b v S) : w.cell? ⟨b, 0, none⟩ = some v ∧ w.cell? ⟨b, 1, none⟩ = some (.int .i64 S.length) ∧ w.cell? ⟨b, 2, none⟩ = some (.int .i64 (frees S).length) ∧ w.frozen? ⟨b, 2, none⟩ = false :=
  ⟨cell_of h.cells 0 rfl, cell_of h.cells 1 rfl, cell_of h.cells 2 rfl, free_of h.cells 2⟩
/-- A word's cell. -/
theorem word_at {w : World} {v : Value} {ws : List Nat} (h : Own w 92 1 v ws.length (u64s ws)) {i : Nat} (hi : i < ws.length) : ∃ g cap, v = .slice (some ⟨g, 0, none⟩) ws.length cap ∧ v.ownBlock = some g ∧ w.cell? ⟨g, i, none⟩ = some (.int .u64 (ws.getD i 0)) := by
  obtain ⟨A, cap, hv, _, _, hc⟩ := h.shape
  obtain ⟨g, hA, hg, e⟩ := hc i (by omega)
  refine ⟨g, cap, by rw [hv, hA], hg, ?_⟩
  rw [e]
  unfold u64s
  rw [List.getElem?_map, List.getElem?_eq_getElem hi, List.getD_eq_getElem?_getD, List.getElem?_eq_getElem hi]
  rfl
def wi (n : Nat) (k : Int) : Int := if 0 ≤ k ∧ k < n then 0 else 12
set_option maxRecDepth 100000 in
theorem within_any (w : World) (b : Nat) (v : Value) (S : List Bool) (k : Int) (h : At w b v S) :
    Calls Tryz.prog 191 #[.pointer (some ⟨b, 0, none⟩), .int .i64 k] w fun e w' => e = .returned (.int .i64 (wi S.length k)) ∧ w = w' := by
  obtain ⟨c0, c1, c2, f2⟩ := h.three
  clear h c0 c2
  have hc : k < 0 ∨ (0 ≤ k ∧ (S.length : Int) ≤ k) ∨ (0 ≤ k ∧ k < (S.length : Int)) := by omega
  obtain ⟨n, hn⟩ : ∃ n, S.length = n := ⟨_, rfl⟩
  rw [hn] at c1 hc ⊢
  clear hn
  rcases hc with h1 | ⟨h1, h2⟩ | ⟨h1, h2⟩
  · have e : wi n k = 12 := by unfold wi; rw [if_neg (by omega)]
    rw [e]
    have d1 : decide (k < 0) = true := by simp; omega
    go_enter Tryz.func191, Tryz.ntmps191
    go_wp2
    go_ret
    exact ⟨rfl, rfl⟩
  · have e : wi n k = 12 := by unfold wi; rw [if_neg (by omega)]
    rw [e]
    have d1 : decide (k < 0) = false := by simp; omega
    have d2 : decide ((n : Int) ≤ k) = true := by simp; omega
    go_enter Tryz.func191, Tryz.ntmps191
    go_wp2
    go_ret
    exact ⟨rfl, rfl⟩
  · have e : wi n k = 0 := by unfold wi; rw [if_pos (by omega)]
    rw [e]
    have d1 : decide (k < 0) = false := by simp; omega
    have d2 : decide ((n : Int) ≤ k) = false := by simp; omega
    go_enter Tryz.func191, Tryz.ntmps191
    go_wp2
    go_ret
    exact ⟨rfl, rfl⟩
theorem frees_turn {S : List Bool} {k : Nat} (hk : k < S.length) (by' : Int) (hb : by' = if S.getD k false then -1 else 1) : ((frees (S.set k (!S.getD k false))).length : Int) = ((frees S).length : Int) + by' := by
  cases h : S.getD k false with
  | true =>
    have := frees_len_false hk h
    rw [h] at hb
    simp at hb
    simp only [Bool.not_true]
    omega
  | false =>
    have := frees_len_true hk h
    rw [h] at hb
    simp at hb
    simp only [Bool.not_false]
    omega
theorem u64s_set (ws : List Nat) (i x : Nat) : u64s (ws.set i x) = (u64s ws).set i (.int .u64 (x : Int)) := by
  unfold u64s; rw [List.map_set]
set_option maxRecDepth 100000 in
set_option maxHeartbeats 1000000 in
theorem turn_any (w : World) (b : Nat) (v : Value) (S : List Bool) (k : Nat) (by' : Int) (h : At w b v S) (hk : k < S.length) (hb : by' = if S.getD k false then -1 else 1) :
    Calls Tryz.prog 266 #[.pointer (some ⟨b, 0, none⟩), .int .i64 k, .int .i64 by'] w fun e w' => e = .returned (.tuple #[]) ∧ At w' b v (S.set k (!S.getD k false)) ∧ Keeps (Fp b v) w w' := by
  have hlen := h.len
  obtain ⟨ws, hB, hO⟩ := h.words
  have hl := hB.len
  have hi : k / 64 < ws.length := by omega
  obtain ⟨g, cap, hv, hg, hcell⟩ := word_at hO hi
  obtain ⟨c0, c1, c2, f2⟩ := h.three
  have hne : b ≠ g := fun e => h.own (by rw [hg, e])
  subst hv
  have HM := Hid.of (frees_turn hk by' hb)
  have hb1 : -1 ≤ by' ∧ by' ≤ 1 := by rw [hb]; split <;> omega
  obtain ⟨hb2, hb3⟩ := hb1
  have hfl := frees_le S
  obtain ⟨x, hx⟩ : ∃ x, ws.getD (k / 64) 0 = x := ⟨_, rfl⟩
  obtain ⟨i, hie⟩ : ∃ i, k / 64 = i := ⟨_, rfl⟩
  obtain ⟨j, hje⟩ : ∃ j, k % 64 = j := ⟨_, rfl⟩
  have ei : (k : Int) / 64 = (i : Int) := by omega
  have ej : (k : Int) % 64 = (j : Int) := by omega
  have ejt : (k : Int).tmod 64 = (j : Int) := by rw [Int.tmod_eq_emod_of_nonneg (by omega)]; omega
  obtain ⟨p, hp⟩ : ∃ p : Nat, 2 ^ j = p := ⟨_, rfl⟩
  obtain ⟨y, hy⟩ : ∃ y, x ^^^ p = y := ⟨_, rfl⟩
  have hj : j < 64 := by omega
  have hk0 : (0 : Int) ≤ (k : Int) := by omega
  have hii : (i : Int) < (ws.length : Int) := by omega
  have wi : IntKind.i64.wrap (i : Int) = (i : Int) := by rw [IntKind.wrap_i64]; omega
  rw [hx, hie] at hcell
  have hBF := hB.flip hk
  rw [hx, hie, hje, hp, hy] at hBF
  have hxl : x < 18446744073709551616 := by rw [← hx]; exact hB.lt _
  have hpl : p < 18446744073709551616 := by rw [← hp]; exact Nat.pow_lt_pow_right (n := 64) (by decide) hj
  have epi : (2 : Int) ^ j = (p : Int) := by rw [← hp]; simp
  have epw : IntKind.u64.wrap (p : Int) = (p : Int) := by rw [IntKind.wrap_u64]; omega
  have eby : bits BinOp.xor IntKind.u64 (x : Int) (p : Int) = (y : Int) := by rw [← hy]; exact u64_xor_nat x p hxl hpl
  have fg := own_free hO hg i
  have hO1 := own_set hO hg i (.int .u64 y)
  have hc1 := (Keeps.refl (fun x => x = g) w).setCell ⟨g, i, none⟩ (.int .u64 y) (.inl rfl)
  obtain ⟨w1, hw1⟩ : ∃ w1, w.setCell ⟨g, i, none⟩ (.int .u64 y) = w1 := ⟨_, rfl⟩
  rw [hw1] at hO1 hc1
  have cs1 := hc1.at h.cells hne
  have d2 := cell_of cs1 2 rfl
  have g2 := free_of cs1 2
  have HF : Hid (At (w1.drew.setCell ⟨b, 2, none⟩ (.int .i64 ((frees S).length + by'))) b (.slice (some ⟨g, 0, none⟩) ws.length cap) (S.set k (!S.getD k false)) ∧ Keeps (Fp b (.slice (some ⟨g, 0, none⟩) ws.length cap)) w (w1.drew.setCell ⟨b, 2, none⟩ (.int .i64 ((frees S).length + by')))) := by
    refine Hid.of ⟨⟨⟨ws.set i y, hBF, ?_⟩, ?_, h.own, by rw [List.length_set]; exact hlen⟩, ?_⟩
    · rw [List.length_set, u64s_set]
      exact (hO1.drew).setCell _ _ (by exact h.own)
    · rw [List.length_set, HM.out]
      exact set_of (w := w1.drew) cs1 2 _
    · exact ((hc1.mono (fun x _ hx => .inr (by rw [hx]; exact hg))).drew).setCell _ _ (.inl (.inl rfl))
  obtain ⟨m, hm⟩ : ∃ m, (frees S).length = m := ⟨_, rfl⟩
  rw [hm] at HF d2 hfl
  have hml : m ≤ 65536 := by omega
  clear hie hje hl hx hi hk hlen hO hB h hp hy hxl hpl hO1 hc1 cs1 hBF hb hm hfl c1 c2 f2
  go_enter Tryz.func266, Tryz.ntmps266
  go_wp2
  go_region
  go_wp2
  go_end0
  exact ⟨rfl, HF.out⟩
theorem taken_dec (S : List Bool) (k : Nat) (hk : k < S.length) : decide (0 ≤ (k : Int) ∧ (k : Int) < S.length ∧ S.getD (k : Int).toNat false = false) = !S.getD k false := by
  rw [Bool.eq_iff_iff, decide_eq_true_eq, Bool.not_eq_true', Int.toNat_natCast]
  exact ⟨fun h => h.2.2, fun h => ⟨Int.natCast_nonneg k, Int.ofNat_lt.2 hk, h⟩⟩
set_option maxRecDepth 100000 in
set_option maxHeartbeats 1000000 in
theorem taken_any (w : World) (b : Nat) (v : Value) (S : List Bool) (k : Int) (h : At w b v S) :
    Calls Tryz.prog 92 #[.pointer (some ⟨b, 0, none⟩), .int .i64 k] w fun e w' => e = .returned (.bool (decide (0 ≤ k ∧ k < S.length ∧ S.getD k.toNat false = false))) ∧ w = w' := by
  have q := within_any w b v S k h
  have hlen := h.len
  by_cases hk : 0 ≤ k ∧ k < S.length
  · have e : wi S.length k = 0 := by unfold wi; rw [if_pos hk]
    rw [e] at q
    obtain ⟨k, rfl⟩ : ∃ n : Nat, k = n := ⟨k.toNat, by omega⟩
    have hk' : k < S.length := by omega
    obtain ⟨ws, hB, hO⟩ := h.words
    have hl := hB.len
    have hi : k / 64 < ws.length := by omega
    obtain ⟨g, cap, hv, hg, hcell⟩ := word_at hO hi
    obtain ⟨c0, c1, c2, f2⟩ := h.three
    subst hv
    have hbit := hB.bit k (by omega)
    have hba := bit_and (ws.getD (k / 64) 0) (k % 64)
    rw [hbit] at hba
    obtain ⟨x, hx⟩ : ∃ x, ws.getD (k / 64) 0 = x := ⟨_, rfl⟩
    obtain ⟨i, hie⟩ : ∃ i, k / 64 = i := ⟨_, rfl⟩
    obtain ⟨j, hje⟩ : ∃ j, k % 64 = j := ⟨_, rfl⟩
    have ei : (k : Int) / 64 = (i : Int) := by omega
    have ej : (k : Int) % 64 = (j : Int) := by omega
    have hj : j < 64 := by omega
    have hk0 : (0 : Int) ≤ (k : Int) := by omega
    have hii : (i : Int) < (ws.length : Int) := by omega
    have wi : wrap64 (i : Int) = (i : Int) := by unfold wrap64; omega
    have wj : wrap64 (j : Int) = (j : Int) := by unfold wrap64; omega
    have hxl : x < 18446744073709551616 := by rw [← hx]; exact hB.lt _
    rw [hx, hie] at hcell
    rw [hx, hje] at hba
    obtain ⟨z, hz⟩ : ∃ z, x / 2 ^ j = z := ⟨_, rfl⟩
    have hzl : z ≤ x := by rw [← hz]; exact Nat.div_le_self _ _
    rw [hz] at hba
    have ez : (x : Int) / 2 ^ j = (z : Int) := by rw [← hz]; simp
    have eba : bits BinOp.and IntKind.u64 (z : Int) 1 = (((if S.getD k false = true then 1 else 0 : Nat) : Nat) : Int) := by
      rw [← hba]; exact u64_and_nat z 1 (by omega) (by decide)
    have hr := taken_dec S k hk'
    rw [hr]
    obtain ⟨f, hf⟩ : ∃ f, S.getD k false = f := ⟨_, rfl⟩
    rw [hf] at eba ⊢
    clear hie hje hl hx hi hlen hO hB h hba hbit hz hxl hzl hr hf c1 c2 f2 hk hk'
    cases f with
    | true =>
      simp only [if_true] at eba
      go_enter Tryz.func92, Tryz.ntmps92
      go_wp2_with fail
      refine q.mono ?_
      rintro e w1 ⟨rfl, rfl⟩
      go_wp2
      go_ret
      exact ⟨rfl, rfl⟩
    | false =>
      have eba : bits BinOp.and IntKind.u64 (z : Int) 1 = 0 := by simpa using eba
      go_enter Tryz.func92, Tryz.ntmps92
      go_wp2_with fail
      refine q.mono ?_
      rintro e w1 ⟨rfl, rfl⟩
      go_wp2
      go_ret
      exact ⟨rfl, rfl⟩
  · have e : wi S.length k = 12 := by unfold wi; rw [if_neg hk]
    rw [e] at q
    have hr : decide (0 ≤ k ∧ k < S.length ∧ S.getD k.toNat false = false) = false := by
      rw [decide_eq_false_iff_not]; rintro ⟨h1, h2, _⟩; exact hk ⟨h1, h2⟩
    rw [hr]
    clear hk h hr hlen
    go_enter Tryz.func92, Tryz.ntmps92
    go_wp2_with fail
    refine q.mono ?_
    rintro e w1 ⟨rfl, rfl⟩
    go_wp2
    go_ret
    exact ⟨rfl, rfl⟩
set_option maxRecDepth 100000 in
def loFrame (x0 x3 : Value) (u : Nat → Value) : Act := { tmps := #[x0, u 1, u 2, x3, u 4, u 5, u 6, u 7, u 8, u 9, u 10, u 11, u 12, u 13, u 14, u 15, u 16, u 17, u 18, u 19, u 20, u 21, u 22, u 23, u 24, u 25, u 26, u 27, u 28, u 29, u 30, u 31, u 32, u 33], defers := [] }
set_option maxRecDepth 100000 in
theorem loFrame_is (v0 v1 v2 v3 v4 v5 v6 v7 v8 v9 v10 v11 v12 v13 v14 v15 v16 v17 v18 v19 v20 v21 v22 v23 v24 v25 v26 v27 v28 v29 v30 v31 v32 v33 : Value) : ({ tmps := #[v0, v1, v2, v3, v4, v5, v6, v7, v8, v9, v10, v11, v12, v13, v14, v15, v16, v17, v18, v19, v20, v21, v22, v23, v24, v25, v26, v27, v28, v29, v30, v31, v32, v33], defers := [] } : Act) = loFrame v0 v3 (fun i => #[v0, v1, v2, v3, v4, v5, v6, v7, v8, v9, v10, v11, v12, v13, v14, v15, v16, v17, v18, v19, v20, v21, v22, v23, v24, v25, v26, v27, v28, v29, v30, v31, v32, v33].getD i undef) := rfl
set_option maxRecDepth 100000 in
set_option maxHeartbeats 1000000 in
theorem lowest_any (w : World) (b : Nat) (v : Value) (S : List Bool) (h : At w b v S) (hT : Tab w) :
    Calls Tryz.prog 178 #[.pointer (some ⟨b, 0, none⟩)] w fun e w' => e = .returned (.int .i64 (low S)) ∧ w = w' := by
  obtain ⟨ws, A, cap, rfl, hB, hwl, hO⟩ := h.shape
  obtain ⟨c0, c1, c2, f2⟩ := h.three
  obtain ⟨L, hL⟩ : ∃ L, low S = L := ⟨_, rfl⟩
  rw [hL]
  have HL := Hid.of hL
  clear c1 c2 f2 hL h
  have HB := Hid.of hB
  have HO := Hid.of hO
  have HT := Hid.of hT
  clear hB hO hT
  go_enter Tryz.func178, Tryz.ntmps178
  go_wp2
  refine wp_scope_once 0 (fun n a' w' => ∃ (i : Nat) (u : Nat → Value), n = ws.length - i ∧ i ≤ ws.length ∧ a' = loFrame (.pointer (some ⟨b, 0, none⟩)) (.int .i64 i) u ∧ Hid (∀ j, j < i → ws.getD j 0 = 0) ∧ w' = w) rfl ?_ ?_
  · rintro n a' w' ⟨i, u, rfl, hi, hf, HZ, hw⟩
    unfold loFrame at hf
    subst hf
    subst hw
    by_cases hlt : i < ws.length
    · obtain ⟨g, cap', hv, hg, hcell⟩ := word_at HO.out hlt
      obtain ⟨x, hx⟩ : ∃ x, ws.getD i 0 = x := ⟨_, rfl⟩
      injection hv with hA _ _
      subst hA
      rw [hx] at hcell
      have HX := Hid.of hx
      have hxl : x < 18446744073709551616 := by rw [← hx]; exact HB.out.lt _
      have hli : decide (ws.length ≤ i) = false := by simp; omega
      have hlj : (i : Int) < (ws.length : Int) := by omega
      clear hx
      by_cases hx0 : x = 0
      · subst hx0
        have hz : (((0 : Nat) : Int) == 0) = true := by simp
        clear hxl
        go_wp2
        go_step3
        rw [show ((i : Int) + 1) = ((i + 1 : Nat) : Int) by omega]
        refine ⟨rfl, ws.length - (i + 1), by omega, i + 1, _, rfl, by omega, loFrame_is .., Hid.of (fun j hj => ?_), rfl⟩
        by_cases e : j = i
        · rw [e]; exact HX.out
        · exact HZ.out j (by omega)
      · have hz : ((x : Int) == 0) = false := by simp; omega
        have q := tz_any w' x hx0 hxl HT.out
        obtain ⟨r, hr⟩ := HB.out.lowest hlt HZ.out (by rw [HX.out]; exact hx0)
        rw [HX.out] at hr
        have hL2 : L = 64 * (i : Int) + (Lib.ctz 64 x : Int) := by
          rw [← HL.out]; unfold low; rw [hr]; simp
        have hc64 := (ctz_bits hx0 hxl).1
        have HL2 := Hid.of hL2
        obtain ⟨c, hc⟩ : ∃ c, Lib.ctz 64 x = c := ⟨_, rfl⟩
        rw [hc] at q HL2 hc64
        clear hL2 hr hx0 hxl hc
        go_wp2_with fail
        refine q.mono ?_
        rintro e w1 ⟨rfl, rfl⟩
        go_wp2
        simp only [Exit.jump]
        go_ret
        exact ⟨by rw [HL2.out]; rfl, rfl⟩
    · have hie : i = ws.length := by omega
      have hli : decide (ws.length ≤ i) = true := by simp; omega
      have HL2 : Hid (L = -1) := Hid.of (by
        have := HB.out.none (fun j hj => HZ.out j (by omega))
        rw [← HL.out]; unfold low; rw [this])
      clear hie hlt
      go_wp2
      simp only [Exit.jump]
      go_ret
      exact ⟨by rw [HL2.out]; rfl, rfl⟩
  · intro hr
    go_wp2
    go_step3
    refine (by assumption : ∀ (a : Act) (w : World), Code.wp _ _ _ a w → _) _ _ ?_
    exact hr _ _ _ ⟨0, _, rfl, Nat.zero_le _, loFrame_is .., Hid.of (fun j hj => by omega), rfl⟩
end Sh
end Go.Proofs.YtnheibcjcgacpaaGreatDoor

/-! The shelf package's walks: Take, Give, New, Copy. -/
namespace Go.Proofs.YtnheibcjcgacpaaGreatDoor
open Go.RowKit Go.ChangeMaps
namespace Sh
/-- The answer of Take; the shelf behind it. -/
def takeR (S : List Bool) : Int × Int := match frees S with
  | [] => (0, 13)
  | k :: _ => ((k : Int), 0)
def takeS (S : List Bool) : List Bool := match frees S with
  | [] => S
  | k :: _ => S.set k false
set_option maxRecDepth 100000 in
set_option maxHeartbeats 1000000 in
theorem take_any (w : World) (b : Nat) (v : Value) (S : List Bool) (h : At w b v S) (hT : Tab w) :
    Calls Tryz.prog 296 #[.pointer (some ⟨b, 0, none⟩)] w fun e w' => e = .returned (.tuple #[.int .i64 (takeR S).1, .int .i64 (takeR S).2]) ∧ At w' b v (takeS S) ∧ Keeps (Fp b v) w w' := by
  have q := lowest_any w b v S h hT
  unfold takeR takeS
  cases hf : frees S with
  | nil =>
    have e : low S = -1 := by unfold low; rw [hf]
    rw [e] at q
    have HF := Hid.of h
    clear h hT e hf
    go_enter Tryz.func296, Tryz.ntmps296
    go_wp2_with fail
    refine q.mono ?_
    rintro e w1 ⟨rfl, rfl⟩
    go_wp2
    go_ret2
    exact ⟨rfl, HF.out, Keeps.refl _ _⟩
  | cons k r =>
    have e : low S = (k : Int) := by unfold low; rw [hf]
    rw [e] at q
    obtain ⟨h1, h2, h3⟩ := frees_take hf
    have t := turn_any w b v S k (-1) h h1 (by rw [h2]; rfl)
    rw [h2, Bool.not_true] at t
    have hk0 : decide ((k : Int) < 0) = false := by simp
    have hkb := h.len
    have hkl : k ≤ 65536 := by omega
    clear h hT e hf h1 h2 h3 hkb
    go_enter Tryz.func296, Tryz.ntmps296
    go_wp2_with fail
    refine q.mono ?_
    rintro e w1 ⟨rfl, rfl⟩
    go_wp2_with fail
    refine t.mono ?_
    rintro e w1 ⟨rfl, h4, k4⟩
    have HF := Hid.of (And.intro h4 k4)
    clear h4 k4 q t
    go_wp2
    go_ret2
    exact ⟨rfl, HF.out⟩
/-- The answer of Give; the shelf behind it. -/
def giveE (S : List Bool) (k : Int) : Int := if 0 ≤ k ∧ k < S.length then (if S.getD k.toNat false then 13 else 0) else 12
def giveS (S : List Bool) (k : Int) : List Bool := if 0 ≤ k ∧ k < S.length then S.set k.toNat true else S
theorem set_same (S : List Bool) (k : Nat) (b : Bool) (h : S.getD k (!b) = b) : S.set k b = S := by
  apply List.ext_getElem?
  intro j
  rw [List.getElem?_set]
  split
  · rename_i q; subst q
    rw [List.getD_eq_getElem?_getD] at h
    cases hj : S[k]? with
    | none => rw [List.getElem?_eq_none_iff] at hj; rw [if_neg (by omega)]
    | some c =>
      rw [hj] at h; simp at h
      have := (List.getElem?_eq_some_iff.1 hj).1
      rw [if_pos this, h]
  · rfl
theorem getD_any (S : List Bool) (k : Nat) (a b : Bool) (h : k < S.length) : S.getD k a = S.getD k b := by
  rw [List.getD_eq_getElem?_getD, List.getD_eq_getElem?_getD, List.getElem?_eq_getElem h]; rfl
set_option maxRecDepth 100000 in
set_option maxHeartbeats 1000000 in
theorem give_any (w : World) (b : Nat) (v : Value) (S : List Bool) (k : Int) (h : At w b v S) :
    Calls Tryz.prog 194 #[.pointer (some ⟨b, 0, none⟩), .int .i64 k] w fun e w' => e = .returned (.int .i64 (giveE S k)) ∧ At w' b v (giveS S k) ∧ Keeps (Fp b v) w w' := by
  have q := within_any w b v S k h
  have t := taken_any w b v S k h
  unfold giveE giveS
  by_cases hk : 0 ≤ k ∧ k < S.length
  · rw [if_pos hk, if_pos hk]
    have e : wi S.length k = 0 := by unfold wi; rw [if_pos hk]
    rw [e] at q
    obtain ⟨k, rfl⟩ : ∃ n : Nat, k = n := ⟨k.toNat, by omega⟩
    have hk' : k < S.length := by omega
    rw [taken_dec S k hk'] at t
    rw [Int.toNat_natCast]
    cases hf : S.getD k false with
    | true =>
      rw [hf, Bool.not_true] at t
      have hs : S.set k true = S := set_same S k true (by rw [Bool.not_true]; exact hf)
      rw [hs]
      have HF := Hid.of h
      clear h hk hk' hf hs e
      go_enter Tryz.func194, Tryz.ntmps194
      go_wp2_with fail
      refine q.mono ?_
      rintro e w1 ⟨rfl, rfl⟩
      go_wp2_with fail
      refine t.mono ?_
      rintro e w1 ⟨rfl, rfl⟩
      go_wp2
      go_ret
      exact ⟨rfl, HF.out, Keeps.refl _ _⟩
    | false =>
      rw [hf, Bool.not_false] at t
      have tn := turn_any w b v S k 1 h hk' (by rw [hf]; rfl)
      rw [hf, Bool.not_false] at tn
      clear h hk hk' hf e
      go_enter Tryz.func194, Tryz.ntmps194
      go_wp2_with fail
      refine q.mono ?_
      rintro e w1 ⟨rfl, rfl⟩
      go_wp2_with fail
      refine t.mono ?_
      rintro e w1 ⟨rfl, rfl⟩
      go_wp2_with fail
      refine tn.mono ?_
      rintro e w1 ⟨rfl, h4, k4⟩
      have HF := Hid.of (And.intro h4 k4)
      clear h4 k4 q t tn
      go_wp2
      go_ret
      exact ⟨rfl, HF.out⟩
  · rw [if_neg hk, if_neg hk]
    have e : wi S.length k = 12 := by unfold wi; rw [if_neg hk]
    rw [e] at q
    have HF := Hid.of h
    clear h hk e t
    go_enter Tryz.func194, Tryz.ntmps194
    go_wp2_with fail
    refine q.mono ?_
    rintro e w1 ⟨rfl, rfl⟩
    go_wp2
    go_ret
    exact ⟨rfl, HF.out, Keeps.refl _ _⟩
theorem one_u64s (ws : List Nat) : ∀ u ∈ u64s ws, u.oneCell' = true := by
  intro u hu
  unfold u64s at hu
  obtain ⟨c, _, rfl⟩ := List.mem_map.1 hu
  rfl
end Sh
end Go.Proofs.YtnheibcjcgacpaaGreatDoor

/-! The shelf package's walks: Copy, New. -/
namespace Go.Proofs.YtnheibcjcgacpaaGreatDoor
open Go.RowKit Go.ChangeMaps
namespace Sh
theorem three_old {w w' : World} {b : Nat} {x y z : Value} (k : Keeps (fun _ => False) w w') (hb : b < w.heap.size) (h : w.cell? ⟨b, 0, none⟩ = some x ∧ w.cell? ⟨b, 1, none⟩ = some y ∧ w.cell? ⟨b, 2, none⟩ = some z) :
    w'.cell? ⟨b, 0, none⟩ = some x ∧ w'.cell? ⟨b, 1, none⟩ = some y ∧ w'.cell? ⟨b, 2, none⟩ = some z := by
  have e := k.block b hb (fun x => x)
  have q : ∀ i : Nat, w'.cell? ⟨b, i, none⟩ = w.cell? ⟨b, i, none⟩ := fun i => by simp only [World.cell?, e]
  rw [q, q, q]; exact h
theorem make_words (w : World) (m : Nat) (hm : m ≤ 1000000) : (Instr.makeSlice 109 (.int .i64 m) (.int .i64 m)).run Tryz.prog w = .ok (.slice (some ⟨w.heap.size, 0, none⟩) m m) (w.alloc (.cells (u64s (List.replicate m 0)).toArray 92)) := by
  obtain ⟨i, z, hi, hz, h2, h3, h4⟩ := slWords.info
  have hz' : z = .int .u64 0 := by
    have h : (Tryz.prog.info? 92).map (fun i => i.zero) = some (some (.int .u64 0)) := by kernel_rfl
    rw [hi] at h; simp at h; rw [hz] at h; simpa using h
  subst hz'
  have := run_make (P := Tryz.prog) w 109 92 i _ slWords.ht hi hz .i64 .i64 m m (by omega) (by omega) (by rw [h3]; omega) (by omega)
  rw [this, h2]
  have e0 : madeCells #[Value.int IntKind.u64 0] m = (u64s (List.replicate m 0)).toArray := by
    unfold u64s
    apply Array.ext
    · simp [madeCells]
    · intro i h1 h2
      simp [madeCells, Nat.mod_one]
  have e : madeCells (Value.int IntKind.u64 0).cells ((m : Int).toNat * 1) = (u64s (List.replicate m 0)).toArray := by
    rw [Int.toNat_natCast, Nat.mul_one]
    exact e0
  rw [e]; simp
theorem own_made (w : World) (m : Nat) (hm : m ≤ 1000000) : Own (w.alloc (.cells (u64s (List.replicate m 0)).toArray 92)) 92 1 (.slice (some ⟨w.heap.size, 0, none⟩) m m) m (u64s (List.replicate m 0)) :=
  ⟨by simp [u64s], .inr ⟨w.heap.size, m, _, rfl, Nat.zero_le _, alloc_new _ _, Nat.le_refl _, by unfold maxLen; omega, by simp [u64s], by simp [u64s]⟩⟩
set_option maxRecDepth 100000 in
set_option maxHeartbeats 1000000 in
theorem new_bad (w : World) (n : Int) (hn : n < 0 ∨ 65536 < n) :
    Calls Tryz.prog 176 #[.int .i64 n] w fun e w' => e = .returned (.tuple #[.pointer none, .int .i64 12]) ∧ w = w' := by
  rcases hn with h | h
  · have d1 : decide (n < 0) = true := by simp; omega
    go_enter Tryz.func176, Tryz.ntmps176
    go_wp2
    go_ret2
    exact ⟨rfl, rfl⟩
  · have d1 : decide (n < 0) = false := by simp; omega
    have d2 : decide (65536 < n) = true := by simp; omega
    go_enter Tryz.func176, Tryz.ntmps176
    go_wp2
    go_ret2
    exact ⟨rfl, rfl⟩
def NewR (w : World) (n : Nat) (e : Ending) (w' : World) : Prop := ∃ b v, e = .returned (.tuple #[.pointer (some ⟨b, 0, none⟩), .int .i64 0]) ∧ At w' b v (List.replicate n true) ∧ (∀ x, Fp b v x → w.heap.size ≤ x) ∧ Keeps (fun _ => False) w w'
set_option maxRecDepth 100000 in
set_option maxHeartbeats 2000000 in
theorem new_any (w : World) (n : Nat) (hn : n ≤ 65536) :
    Calls Tryz.prog 176 #[.int .i64 n] w (NewR w n) := by
  have d1 : decide ((n : Int) < 0) = false := by simp
  have d2 : decide (65536 < (n : Int)) = false := by simp; omega
  obtain ⟨m, hm⟩ : ∃ m, (n + 63) / 64 = m := ⟨_, rfl⟩
  have hml : m ≤ 1025 := by omega
  have em : ((n : Int) + 63) / 64 = (m : Int) := by omega
  have mk := fun w => make_words w m (by omega)
  have o1 := own_made w m (by omega)
  obtain ⟨w1, hw1⟩ : ∃ w1, w.alloc (.cells (u64s (List.replicate m 0)).toArray 92) = w1 := ⟨_, rfl⟩
  have k1 : Keeps (fun _ => False) w w1 := by rw [← hw1]; exact (Keeps.refl _ _).alloc _
  rw [hw1] at o1
  have wm : wrap64 (m : Int) = (m : Int) := by unfold wrap64; omega
  have c1 : w1.heap.size = w.heap.size + 1 := by rw [← hw1]; simp
  obtain ⟨w2, hw2⟩ : ∃ w2, w1.alloc (.cells #[.slice (some ⟨w.heap.size, 0, none⟩) m m, .int .i64 n, .int .i64 n] 259) = w2 := ⟨_, rfl⟩
  have k2 : Keeps (fun _ => False) w1 w2 := by rw [← hw2]; exact (Keeps.refl _ _).alloc _
  have c2 : w2.heap[w1.heap.size]? = some (.cells #[.slice (some ⟨w.heap.size, 0, none⟩) m m, .int .i64 n, .int .i64 n] 259 (0, 0)) := by rw [← hw2]; exact alloc_new _ _
  have o2 := o1.keep k2 (fun _ _ x => x)
  have HC := Hid.of c1
  clear c1 o1
  go_enter Tryz.func176, Tryz.ntmps176
  go_wp2
  obtain ⟨b, hb⟩ : ∃ b, w1.heap.size = b := ⟨_, rfl⟩
  rw [hb] at c2
  try rw [hb]
  obtain ⟨g, hg⟩ : ∃ g, w.heap.size = g := ⟨_, rfl⟩
  rw [hg] at c2 o2
  try rw [hg]
  have hbg : b ≠ g := by rw [← hb, ← hg, HC.out]; omega
  have K2 := k1.trans k2
  have HM := Hid.of (And.intro hm (And.intro hb hg))
  clear mk hw1 hw2 k1 k2 hb hg wm em d1 d2 hm
  go_loopw [21] (fun i wr => ∃ (j : Nat) (ws : List Nat), j ≤ n ∧ i = .int .i64 j ∧ Bits ws (first j n) ∧ Own wr 92 1 (.slice (some ⟨g, 0, none⟩) m m) m (u64s ws) ∧ wr.heap[b]? = some (.cells #[.slice (some ⟨g, 0, none⟩) m m, .int .i64 n, .int .i64 n] 259 (0, 0)) ∧ Keeps (fun _ => False) w wr) (fun i _ => n - (intOf i).toNat)
  case atStart => exact ⟨0, List.replicate m 0, Nat.zero_le _, rfl, by rw [first_zero, ← HM.out.1]; exact Bits.zero n, o2, c2, K2⟩
  case round =>
    clear c2 o2 K2
    obtain ⟨k, ws, hkn, rfl, hB, hO, hc, K⟩ := hrel
    by_cases hlt : k < n
    · have hl := hB.len
      rw [first_len hkn] at hl
      have hwm : ws.length = m := by rw [hl]; exact HM.out.1
      have hi : k / 64 < ws.length := by omega
      obtain ⟨g', cap, hv, hg', hcell⟩ := word_at (by rw [hwm]; exact hO) hi
      obtain ⟨rfl, -⟩ : g = g' ∧ True := by injection hg' with e; exact ⟨e, trivial⟩
      have c0 := cell_of (v := .slice (some ⟨g, 0, none⟩) m m) hc 0 rfl
      have hBF := hB.set (k := k) (by rw [first_len hkn]; exact hlt)
      rw [first_succ hlt] at hBF
      obtain ⟨x, hx⟩ : ∃ x, ws.getD (k / 64) 0 = x := ⟨_, rfl⟩
      obtain ⟨i, hie⟩ : ∃ i, k / 64 = i := ⟨_, rfl⟩
      obtain ⟨j, hje⟩ : ∃ j, k % 64 = j := ⟨_, rfl⟩
      have ei : (k : Int) / 64 = (i : Int) := by omega
      have ej : (k : Int) % 64 = (j : Int) := by omega
      have ejt : (k : Int).tmod 64 = (j : Int) := by rw [Int.tmod_eq_emod_of_nonneg (by omega)]; omega
      obtain ⟨p, hp⟩ : ∃ p : Nat, 2 ^ j = p := ⟨_, rfl⟩
      obtain ⟨y, hy⟩ : ∃ y, x ||| p = y := ⟨_, rfl⟩
      have hj : j < 64 := by omega
      have hk0 : (0 : Int) ≤ (k : Int) := by omega
      have hii : (i : Int) < (m : Int) := by omega
      have wi : IntKind.i64.wrap (i : Int) = (i : Int) := by rw [IntKind.wrap_i64]; omega
      rw [hx, hie] at hcell
      rw [hx, hie, hje, hp, hy] at hBF
      have hxl : x < 18446744073709551616 := by rw [← hx]; exact hB.lt _
      have hpl : p < 18446744073709551616 := by rw [← hp]; exact Nat.pow_lt_pow_right (n := 64) (by decide) hj
      have epi : (2 : Int) ^ j = (p : Int) := by rw [← hp]; simp
      have epw : IntKind.u64.wrap (p : Int) = (p : Int) := by rw [IntKind.wrap_u64]; omega
      have eby : bits BinOp.or IntKind.u64 (x : Int) (p : Int) = (y : Int) := by rw [← hy]; exact u64_or_nat x p hxl hpl
      have fg := own_free hO (g := g) rfl i
      have hO1 := own_set hO (g := g) rfl i (.int .u64 y)
      have hK1 : Keeps (fun _ => False) w (wr.setCell ⟨g, i, none⟩ (.int .u64 y)) := K.setCell _ _ (.inr (by rw [← HM.out.2.2]; exact Nat.le_refl _))
      have hc1 : (wr.setCell ⟨g, i, none⟩ (.int .u64 y)).heap[b]? = some (.cells #[.slice (some ⟨g, 0, none⟩) m m, .int .i64 n, .int .i64 n] 259 (0, 0)) := by rw [set_other _ _ (by exact hbg)]; exact hc
      obtain ⟨w4, hw4⟩ : ∃ w4, wr.setCell ⟨g, i, none⟩ (.int .u64 y) = w4 := ⟨_, rfl⟩
      rw [hw4, ← u64s_set] at hO1
      rw [hw4] at hK1 hc1
      have HF := Hid.of (And.intro hBF (And.intro hO1 (And.intro hc1 hK1)))
      have hlti : (k : Int) < (n : Int) := by omega
      clear hie hje hl hx hi hwm hO hB hp hy hxl hpl hO1 hc1 hBF hK1 K hc hv hg'
      go_wp2
      go_region
      go_wp2
      go_roundw
      case rel => exact ⟨k + 1, ws.set i y, by omega, by go_num, HF.out.1, HF.out.2.1.drew, HF.out.2.2.1, HF.out.2.2.2.drew⟩
      case measure => simp [intOf]; omega
    · obtain rfl : k = n := by omega
      have hl1 : ¬ ((k : Int) < (k : Int)) := by omega
      rw [first_all] at hB
      have hl := hB.len
      rw [List.length_replicate] at hl
      have hwm : ws.length = m := by rw [hl]; exact HM.out.1
      have HF : Hid (At wr b (.slice (some ⟨g, 0, none⟩) m m) (List.replicate k true) ∧ (∀ x, Fp b (.slice (some ⟨g, 0, none⟩) m m) x → w.heap.size ≤ x) ∧ Keeps (fun _ => False) w wr) := by
        refine Hid.of ⟨⟨⟨ws, hB, by rw [hwm]; exact hO⟩, ?_, ?_, by rw [List.length_replicate]; exact hn⟩, fun x hx => ?_, K⟩
        · rw [frees_all, List.length_range, List.length_replicate]; exact hc
        · intro e
          have e' : some g = some b := e
          injection e' with e'
          exact hbg e'.symm
        · obtain ⟨-, h1, h2⟩ := HM.out
          have hz := HC.out
          rcases hx with rfl | hx
          · omega
          · have hx' : some g = some x := hx
            injection hx' with hx'
            omega
      clear hB hO hc K hl hwm hlt
      go_wp2
      go_ret2
      exact ⟨_, _, rfl, HF.out⟩
end Sh
end Go.Proofs.YtnheibcjcgacpaaGreatDoor

/-! The shelf package's walks: TakeAt of a free number, Size. -/
namespace Go.Proofs.YtnheibcjcgacpaaGreatDoor
open Go.RowKit Go.ChangeMaps
namespace Sh
set_option maxRecDepth 100000 in
set_option maxHeartbeats 1000000 in
theorem takeAt_any (w : World) (b : Nat) (v : Value) (S : List Bool) (k : Nat) (h : At w b v S) (hk : k < S.length) (hf : S.getD k false = true) :
    Calls Tryz.prog 180 #[.pointer (some ⟨b, 0, none⟩), .int .i64 k] w fun e w' => e = .returned (.int .i64 0) ∧ At w' b v (S.set k false) ∧ Keeps (Fp b v) w w' := by
  have q := within_any w b v S k h
  have t := taken_any w b v S k h
  have e : wi S.length k = 0 := by unfold wi; rw [if_pos (by omega)]
  rw [e] at q
  rw [taken_dec S k hk, hf, Bool.not_true] at t
  have tn := turn_any w b v S k (-1) h hk (by rw [hf]; rfl)
  rw [hf, Bool.not_true] at tn
  clear h hk hf e
  go_enter Tryz.func180, Tryz.ntmps180
  go_wp2_with fail
  refine q.mono ?_
  rintro e w1 ⟨rfl, rfl⟩
  go_wp2_with fail
  refine t.mono ?_
  rintro e w1 ⟨rfl, rfl⟩
  go_wp2_with fail
  refine tn.mono ?_
  rintro e w1 ⟨rfl, h4, k4⟩
  have HF := Hid.of (And.intro h4 k4)
  clear h4 k4 q t tn
  go_wp2
  go_ret
  exact ⟨rfl, HF.out⟩
set_option maxRecDepth 100000 in
theorem size_any (w : World) (b : Nat) (v : Value) (S : List Bool) (h : At w b v S) :
    Calls Tryz.prog 91 #[.pointer (some ⟨b, 0, none⟩)] w fun e w' => e = .returned (.int .i64 S.length) ∧ w = w' := by
  obtain ⟨c0, c1, c2, f2⟩ := h.three
  clear h c0 c2
  go_enter Tryz.func91, Tryz.ntmps91
  go_wp2
  go_ret
  exact ⟨rfl, rfl⟩
end Sh
end Go.Proofs.YtnheibcjcgacpaaGreatDoor

/-! The shelf package's walk: Free. -/
namespace Go.Proofs.YtnheibcjcgacpaaGreatDoor
open Go.RowKit Go.ChangeMaps
namespace Sh
set_option maxRecDepth 100000 in
theorem free_any (w : World) (b : Nat) (v : Value) (S : List Bool) (h : At w b v S) :
    Calls Tryz.prog 114 #[.pointer (some ⟨b, 0, none⟩)] w fun e w' => e = .returned (.int .i64 (frees S).length) ∧ w = w' := by
  obtain ⟨c0, c1, c2, f2⟩ := h.three
  clear h c0 c1
  go_enter Tryz.func114, Tryz.ntmps114
  go_wp2
  go_ret
  exact ⟨rfl, rfl⟩
end Sh
end Go.Proofs.YtnheibcjcgacpaaGreatDoor
