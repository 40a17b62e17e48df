/- The shelf package's walks: Copy, New. -/
import Derived.Test.YtagmkkddjdlncaaDoorShB
set_option linter.unusedVariables false
set_option linter.unusedSimpArgs false
namespace Go.Proofs.YtagmkkddjdlncaaDoor
open Go.RowKit Go.ChangeMaps
namespace Sh
theorem three_old {w w' : World} {b : Nat} {x y z : Value} (k : Keeps (fun _ => False) w w') (hb : b < w.heap.size) (h : w.cell? ⟨b, 0, none⟩ = some x ∧ w.cell? ⟨b, 1, none⟩ = some y ∧ w.cell? ⟨b, 2, none⟩ = some z) :
    w'.cell? ⟨b, 0, none⟩ = some x ∧ w'.cell? ⟨b, 1, none⟩ = some y ∧ w'.cell? ⟨b, 2, none⟩ = some z := by
  have e := k.block b hb (fun x => x)
  have q : ∀ i : Nat, w'.cell? ⟨b, i, none⟩ = w.cell? ⟨b, i, none⟩ := fun i => by simp only [World.cell?, e]
  rw [q, q, q]; exact h
set_option maxRecDepth 100000 in
set_option maxHeartbeats 1000000 in
theorem copy_any (w : World) (b : Nat) (v : Value) (S : List Bool) (h : At w b v S) :
    Calls Tryd.prog 39 #[.pointer (some ⟨b, 0, none⟩)] w fun e w' => ∃ b' v', e = .returned (.pointer (some ⟨b', 0, none⟩)) ∧ At w' b' v' S ∧ (∀ x, Fp b' v' x → w.heap.size ≤ x) ∧ Keeps (fun _ => False) w w' := by
  have hlen := h.len
  obtain ⟨ws, A, cap, rfl, hB, hwl, hO⟩ := h.shape
  obtain ⟨c0, c1, c2, f2⟩ := h.three
  have hr : Rd w.drew A (u64s ws) := by
    obtain ⟨A', cap', hv, _, _, r⟩ := hO.rd
    injection hv with e1 _ _
    rw [e1]; exact r
  have hA : A = none → ws.length = 0 ∧ cap = 0 := by
    rintro rfl
    rcases hO.2 with ⟨h2, _⟩ | ⟨g, cap', cur, hv, _⟩
    · injection h2 with _ e1 e2; exact ⟨e1, e2⟩
    · injection hv with e1; cases e1
  have hbl := lt_of h.cells
  obtain ⟨n, hn⟩ : ∃ n, S.length = n := ⟨_, rfl⟩
  obtain ⟨m, hm⟩ : ∃ m, (frees S).length = m := ⟨_, rfl⟩
  have q := clone_any w.drew A ws.length cap (u64s ws) hA (u64s_length ws) hr (one_u64s ws) (by omega)
  have HH := Hid.of (And.intro hB (And.intro hn hm))
  rw [hn] at c1 hlen
  rw [hm] at c2
  clear h hB hO f2 hr hA hn hm
  go_enter Tryd.func39, Tryd.ntmps39
  go_wp2
  go_region_held3 (fun wx => wx.cell? ⟨b, 0, none⟩ = some (.slice A ws.length cap) ∧ wx.cell? ⟨b, 1, none⟩ = some (.int .i64 n) ∧ wx.cell? ⟨b, 2, none⟩ = some (.int .i64 m))
    (first | exact ⟨c0, c1, c2⟩ | exact z0 | exact three_old ((Keeps.refl _ _).alloc _) hb1 z0)
    (first | (go_at_call 51; refine q.mono ?_; rintro e w1 ⟨v1, rfl, o1, k1⟩; obtain ⟨A1, cap1, hv1, -, -, -⟩ := o1.1.shape; subst hv1; have z0 := three_old (b := b) k1 hbl ⟨c0, c1, c2⟩; have hb1 : b < w1.heap.size := Nat.lt_of_lt_of_le hbl k1.size; have HF := Hid.of (And.intro o1 k1); clear o1 k1))
  go_wp2
  go_ret
  obtain ⟨o1, k1⟩ := HF.out
  obtain ⟨hB, hn, hm⟩ := HH.out
  have o1' : OutR 32 1 w.heap.size w1 (.slice A1 ws.length cap1) ws.length (u64s ws) := o1
  refine ⟨w1.heap.size, _, rfl, ⟨⟨ws, hB, o1'.1.alloc _⟩, ?_, ?_, by omega⟩, ?_, (k1.of_drew).alloc _⟩
  · rw [hn, hm]; exact alloc_new w1 _
  · intro e
    have := o1'.1.lt e
    omega
  · intro x hx
    rcases hx with rfl | hx
    · have := k1.size; exact this
    · exact o1'.2 x hx
theorem make_words (w : World) (m : Nat) (hm : m ≤ 1000000) : (Instr.makeSlice 98 (.int .i64 m) (.int .i64 m)).run Tryd.prog w = .ok (.slice (some ⟨w.heap.size, 0, none⟩) m m) (w.alloc (.cells (u64s (List.replicate m 0)).toArray 32)) := by
  obtain ⟨i, z, hi, hz, h2, h3, h4⟩ := slWords.info
  have hz' : z = .int .u64 0 := by
    have h : (Tryd.prog.info? 32).map (fun i => i.zero) = some (some (.int .u64 0)) := by kernel_rfl
    rw [hi] at h; simp at h; rw [hz] at h; simpa using h
  subst hz'
  have := run_make (P := Tryd.prog) w 98 32 i _ slWords.ht hi hz .i64 .i64 m m (by omega) (by omega) (by rw [h3]; omega) (by omega)
  rw [this, h2]
  have e0 : madeCells #[Value.int IntKind.u64 0] m = (u64s (List.replicate m 0)).toArray := by
    unfold u64s
    apply Array.ext
    · simp [madeCells]
    · intro i h1 h2
      simp [madeCells, Nat.mod_one]
  have e : madeCells (Value.int IntKind.u64 0).cells ((m : Int).toNat * 1) = (u64s (List.replicate m 0)).toArray := by
    rw [Int.toNat_natCast, Nat.mul_one]
    exact e0
  rw [e]; simp
theorem own_made (w : World) (m : Nat) (hm : m ≤ 1000000) : Own (w.alloc (.cells (u64s (List.replicate m 0)).toArray 32)) 32 1 (.slice (some ⟨w.heap.size, 0, none⟩) m m) m (u64s (List.replicate m 0)) :=
  ⟨by simp [u64s], .inr ⟨w.heap.size, m, _, rfl, Nat.zero_le _, alloc_new _ _, Nat.le_refl _, by unfold maxLen; omega, by simp [u64s], by simp [u64s]⟩⟩
set_option maxRecDepth 100000 in
set_option maxHeartbeats 1000000 in
theorem new_bad (w : World) (n : Int) (hn : n < 0 ∨ 65536 < n) :
    Calls Tryd.prog 45 #[.int .i64 n] w fun e w' => e = .returned (.tuple #[.pointer none, .int .i64 12]) ∧ w = w' := by
  rcases hn with h | h
  · have d1 : decide (n < 0) = true := by simp; omega
    go_enter Tryd.func45, Tryd.ntmps45
    go_wp2
    go_ret2
    exact ⟨rfl, rfl⟩
  · have d1 : decide (n < 0) = false := by simp; omega
    have d2 : decide (65536 < n) = true := by simp; omega
    go_enter Tryd.func45, Tryd.ntmps45
    go_wp2
    go_ret2
    exact ⟨rfl, rfl⟩
def NewR (w : World) (n : Nat) (e : Ending) (w' : World) : Prop := ∃ b v, e = .returned (.tuple #[.pointer (some ⟨b, 0, none⟩), .int .i64 0]) ∧ At w' b v (List.replicate n true) ∧ (∀ x, Fp b v x → w.heap.size ≤ x) ∧ Keeps (fun _ => False) w w'
set_option maxRecDepth 100000 in
set_option maxHeartbeats 2000000 in
theorem new_any (w : World) (n : Nat) (hn : n ≤ 65536) :
    Calls Tryd.prog 45 #[.int .i64 n] w (NewR w n) := by
  have d1 : decide ((n : Int) < 0) = false := by simp
  have d2 : decide (65536 < (n : Int)) = false := by simp; omega
  obtain ⟨m, hm⟩ : ∃ m, (n + 63) / 64 = m := ⟨_, rfl⟩
  have hml : m ≤ 1025 := by omega
  have em : ((n : Int) + 63) / 64 = (m : Int) := by omega
  have mk := fun w => make_words w m (by omega)
  have o1 := own_made w m (by omega)
  obtain ⟨w1, hw1⟩ : ∃ w1, w.alloc (.cells (u64s (List.replicate m 0)).toArray 32) = w1 := ⟨_, rfl⟩
  have k1 : Keeps (fun _ => False) w w1 := by rw [← hw1]; exact (Keeps.refl _ _).alloc _
  rw [hw1] at o1
  have wm : wrap64 (m : Int) = (m : Int) := by unfold wrap64; omega
  have c1 : w1.heap.size = w.heap.size + 1 := by rw [← hw1]; simp
  obtain ⟨w2, hw2⟩ : ∃ w2, w1.alloc (.cells #[.slice (some ⟨w.heap.size, 0, none⟩) m m, .int .i64 n, .int .i64 n] 101) = w2 := ⟨_, rfl⟩
  have k2 : Keeps (fun _ => False) w1 w2 := by rw [← hw2]; exact (Keeps.refl _ _).alloc _
  have c2 : w2.heap[w1.heap.size]? = some (.cells #[.slice (some ⟨w.heap.size, 0, none⟩) m m, .int .i64 n, .int .i64 n] 101 (0, 0)) := by rw [← hw2]; exact alloc_new _ _
  have o2 := o1.keep k2 (fun _ _ x => x)
  have HC := Hid.of c1
  clear c1 o1
  go_enter Tryd.func45, Tryd.ntmps45
  go_wp2
  obtain ⟨b, hb⟩ : ∃ b, w1.heap.size = b := ⟨_, rfl⟩
  rw [hb] at c2
  try rw [hb]
  obtain ⟨g, hg⟩ : ∃ g, w.heap.size = g := ⟨_, rfl⟩
  rw [hg] at c2 o2
  try rw [hg]
  have hbg : b ≠ g := by rw [← hb, ← hg, HC.out]; omega
  have K2 := k1.trans k2
  have HM := Hid.of (And.intro hm (And.intro hb hg))
  clear mk hw1 hw2 k1 k2 hb hg wm em d1 d2 hm
  go_loopw [21] (fun i wr => ∃ (j : Nat) (ws : List Nat), j ≤ n ∧ i = .int .i64 j ∧ Bits ws (first j n) ∧ Own wr 32 1 (.slice (some ⟨g, 0, none⟩) m m) m (u64s ws) ∧ wr.heap[b]? = some (.cells #[.slice (some ⟨g, 0, none⟩) m m, .int .i64 n, .int .i64 n] 101 (0, 0)) ∧ Keeps (fun _ => False) w wr) (fun i _ => n - (intOf i).toNat)
  case atStart => exact ⟨0, List.replicate m 0, Nat.zero_le _, rfl, by rw [first_zero, ← HM.out.1]; exact Bits.zero n, o2, c2, K2⟩
  case round =>
    clear c2 o2 K2
    obtain ⟨k, ws, hkn, rfl, hB, hO, hc, K⟩ := hrel
    by_cases hlt : k < n
    · have hl := hB.len
      rw [first_len hkn] at hl
      have hwm : ws.length = m := by rw [hl]; exact HM.out.1
      have hi : k / 64 < ws.length := by omega
      obtain ⟨g', cap, hv, hg', hcell⟩ := word_at (by rw [hwm]; exact hO) hi
      obtain ⟨rfl, -⟩ : g = g' ∧ True := by injection hg' with e; exact ⟨e, trivial⟩
      have c0 := cell_of (v := .slice (some ⟨g, 0, none⟩) m m) hc 0 rfl
      have hBF := hB.set (k := k) (by rw [first_len hkn]; exact hlt)
      rw [first_succ hlt] at hBF
      obtain ⟨x, hx⟩ : ∃ x, ws.getD (k / 64) 0 = x := ⟨_, rfl⟩
      obtain ⟨i, hie⟩ : ∃ i, k / 64 = i := ⟨_, rfl⟩
      obtain ⟨j, hje⟩ : ∃ j, k % 64 = j := ⟨_, rfl⟩
      have ei : (k : Int) / 64 = (i : Int) := by omega
      have ej : (k : Int) % 64 = (j : Int) := by omega
      have ejt : (k : Int).tmod 64 = (j : Int) := by rw [Int.tmod_eq_emod_of_nonneg (by omega)]; omega
      obtain ⟨p, hp⟩ : ∃ p : Nat, 2 ^ j = p := ⟨_, rfl⟩
      obtain ⟨y, hy⟩ : ∃ y, x ||| p = y := ⟨_, rfl⟩
      have hj : j < 64 := by omega
      have hk0 : (0 : Int) ≤ (k : Int) := by omega
      have hii : (i : Int) < (m : Int) := by omega
      have wi : IntKind.i64.wrap (i : Int) = (i : Int) := by rw [IntKind.wrap_i64]; omega
      rw [hx, hie] at hcell
      rw [hx, hie, hje, hp, hy] at hBF
      have hxl : x < 18446744073709551616 := by rw [← hx]; exact hB.lt _
      have hpl : p < 18446744073709551616 := by rw [← hp]; exact Nat.pow_lt_pow_right (n := 64) (by decide) hj
      have epi : (2 : Int) ^ j = (p : Int) := by rw [← hp]; simp
      have epw : IntKind.u64.wrap (p : Int) = (p : Int) := by rw [IntKind.wrap_u64]; omega
      have eby : bits BinOp.or IntKind.u64 (x : Int) (p : Int) = (y : Int) := by rw [← hy]; exact u64_or_nat x p hxl hpl
      have fg := own_free hO (g := g) rfl i
      have hO1 := own_set hO (g := g) rfl i (.int .u64 y)
      have hK1 : Keeps (fun _ => False) w (wr.setCell ⟨g, i, none⟩ (.int .u64 y)) := K.setCell _ _ (.inr (by rw [← HM.out.2.2]; exact Nat.le_refl _))
      have hc1 : (wr.setCell ⟨g, i, none⟩ (.int .u64 y)).heap[b]? = some (.cells #[.slice (some ⟨g, 0, none⟩) m m, .int .i64 n, .int .i64 n] 101 (0, 0)) := by rw [set_other _ _ (by exact hbg)]; exact hc
      obtain ⟨w4, hw4⟩ : ∃ w4, wr.setCell ⟨g, i, none⟩ (.int .u64 y) = w4 := ⟨_, rfl⟩
      rw [hw4, ← u64s_set] at hO1
      rw [hw4] at hK1 hc1
      have HF := Hid.of (And.intro hBF (And.intro hO1 (And.intro hc1 hK1)))
      have hlti : (k : Int) < (n : Int) := by omega
      clear hie hje hl hx hi hwm hO hB hp hy hxl hpl hO1 hc1 hBF hK1 K hc hv hg'
      go_wp2
      go_region
      go_wp2
      go_roundw
      case rel => exact ⟨k + 1, ws.set i y, by omega, by go_num, HF.out.1, HF.out.2.1.drew, HF.out.2.2.1, HF.out.2.2.2.drew⟩
      case measure => simp [intOf]; omega
    · obtain rfl : k = n := by omega
      have hl1 : ¬ ((k : Int) < (k : Int)) := by omega
      rw [first_all] at hB
      have hl := hB.len
      rw [List.length_replicate] at hl
      have hwm : ws.length = m := by rw [hl]; exact HM.out.1
      have HF : Hid (At wr b (.slice (some ⟨g, 0, none⟩) m m) (List.replicate k true) ∧ (∀ x, Fp b (.slice (some ⟨g, 0, none⟩) m m) x → w.heap.size ≤ x) ∧ Keeps (fun _ => False) w wr) := by
        refine Hid.of ⟨⟨⟨ws, hB, by rw [hwm]; exact hO⟩, ?_, ?_, by rw [List.length_replicate]; exact hn⟩, fun x hx => ?_, K⟩
        · rw [frees_all, List.length_range, List.length_replicate]; exact hc
        · intro e
          have e' : some g = some b := e
          injection e' with e'
          exact hbg e'.symm
        · obtain ⟨-, h1, h2⟩ := HM.out
          have hz := HC.out
          rcases hx with rfl | hx
          · omega
          · have hx' : some g = some x := hx
            injection hx' with hx'
            omega
      clear hB hO hc K hl hwm hlt
      go_wp2
      go_ret2
      exact ⟨_, _, rfl, HF.out⟩
end Sh
end Go.Proofs.YtagmkkddjdlncaaDoor
