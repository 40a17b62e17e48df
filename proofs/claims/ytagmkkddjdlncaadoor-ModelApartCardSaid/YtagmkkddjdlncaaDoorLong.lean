/- garthlaw21.Long: is there more than is played? -/
import Derived.Test.YtagmkkddjdlncaaDoorOpg
import Derived.Test.YtagmkkddjdlncaaDoorOps
set_option linter.unusedVariables false
set_option linter.unusedSimpArgs false
namespace Go.Proofs.YtagmkkddjdlncaaDoor
open Go.RowKit Go.ChangeMaps
def LongR (w : World) (xs : List GOp) (most : Nat) (e : Ending) (w' : World) : Prop := ∃ b : Bool, e = .returned (.bool b) ∧ Keeps (fun _ => False) w w' ∧ (b = false → xs.length ≤ most ∧ ∀ x ∈ xs, x.data.length ≤ 128 * most + 15)
theorem long_min (E : Nat) : ∃ Mn : Nat, (if (1048576 : Int) < (E : Int) then (1048576 : Int) else (E : Int)) = (Mn : Int) ∧ Mn ≤ 1048576 ∧ (Mn = E ∨ Mn = 1048576) := by
  by_cases h : (1048576 : Int) < (E : Int)
  · rw [if_pos h]; exact ⟨1048576, rfl, Nat.le_refl _, .inr rfl⟩
  · rw [if_neg h]; exact ⟨E, rfl, by omega, .inl rfl⟩
theorem long_wrap (N Mn : Nat) (hN : N ≤ 8000) (hM : Mn ≤ 1048576) : wrap64 (4 + (Mn : Int)) = 4 + Mn ∧ wrap64 ((N : Int) + (4 + Mn)) = ((N + 4 + Mn : Nat) : Int) := by
  unfold wrap64; omega
theorem long_data {dl D E Mn N N' most : Nat} (h1 : dl = D) (h2 : D / 16 = E) (h3 : Mn = E ∨ Mn = 1048576) (h4 : N + 4 + Mn = N') (h5 : N' ≤ 8 * most) (hm : most ≤ 1000) : dl ≤ 128 * most + 15 := by omega
set_option maxRecDepth 100000 in
set_option maxHeartbeats 600000 in
theorem long_any (w : World) (Pg C : Int) (A : Option Addr) (cap : Nat) (xs : List GOp) (L most : Nat) (hL : xs.length = L) (hr : Rd w A (gops xs)) (hok : ∀ x ∈ xs, x.Ok) (hl : xs.length ≤ maxLen) (hm : most ≤ 1000) :
    Calls Tryd.prog 8 #[.agg #[.int .i64 Pg, .int .i64 C], .slice A L cap, .int .i64 most] w (LongR w xs most) := by
  unfold maxLen at hl
  rw [hL] at hl
  obtain ⟨cb, hcb⟩ : ∃ cb, w.heap.size = cb := ⟨_, rfl⟩
  obtain ⟨w1, hw1⟩ : ∃ w1, w.alloc (.cells #[.int .i64 Pg, .int .i64 C] 23) = w1 := ⟨_, rfl⟩
  have k1 : Keeps (fun _ => False) w w1 := by rw [← hw1]; exact (Keeps.refl _ _).alloc _
  have b1 : w1.heap[cb]? = some (.cells #[.int .i64 Pg, .int .i64 C] 23 (0, 0)) := by rw [← hw1, ← hcb]; exact alloc_new _ _
  have HK := Hid.of (And.intro k1 b1)
  have HR := Hid.of (And.intro hr (And.intro hok hL))
  have wm : wrap64 (8 * (most : Int)) = 8 * most := by unfold wrap64; omega
  clear k1 b1 hr hok hL
  go_enter Tryd.func8, Tryd.ntmps8
  go_wp2
  clear hw1 hcb
  go_loopw [7, 12] (fun v i wr => ∃ (k N : Nat), k ≤ L ∧ i = .int .i64 k ∧ v = .int .i64 N ∧ N ≤ 8 * most ∧ Hid (Keeps (fun _ => False) w1 wr ∧ ∀ x ∈ xs.take k, x.data.length ≤ 128 * most + 15)) (fun v i _ => L - (intOf i).toNat)
  case atStart => exact ⟨0, 0, by omega, rfl, rfl, by omega, Hid.of (And.intro (Keeps.refl _ _) (by simp))⟩
  case round =>
    obtain ⟨k, N, hk, rfl, rfl, hN, HI⟩ := hrel
    by_cases hlt : k < L
    · have rr := (HR.out.1.old HK.out.1).old HI.out.1
      obtain ⟨b, o, s, kk, t, n, m, hh, d, hg, rfl, z0, z1, z2, z3, z4, z5⟩ := rgop rr k (by rw [HR.out.2.2]; exact hlt)
      have hkd : decide ((k : Int) < L) = true := by simp; omega
      have hdl : d.length ≤ maxLen := (HR.out.2.1 _ (List.mem_of_getElem? hg)).d
      unfold maxLen at hdl
      obtain ⟨D, hD⟩ : ∃ D, d.length = D := ⟨_, rfl⟩
      rw [hD] at hdl
      have ht : ((D : Int)).tdiv 16 = ((D / 16 : Nat) : Int) := by rw [Int.tdiv_eq_ediv_of_nonneg (by omega)]; rfl
      obtain ⟨E, hE⟩ : ∃ E, D / 16 = E := ⟨_, rfl⟩
      rw [hE] at ht
      have ht2 : (D : Int) / 16 = (E : Int) := by omega
      have wt : IntKind.i64.wrap (E : Int) = (E : Int) := IntWalk.i64_in _ (by omega)
      have wt2 : wrap64 (E : Int) = (E : Int) := by unfold wrap64; omega
      have hmin := fun ts ty w => Op1.run_min_i (P := Tryd.prog) ts ty (E : Int) 1048576 w
      obtain ⟨Mn, hMn', hMb, hMn⟩ := long_min E
      rw [hMn'] at hmin
      obtain ⟨wa, wb⟩ := long_wrap N Mn (by omega) hMb
      obtain ⟨N', hN'⟩ : ∃ N', N + 4 + Mn = N' := ⟨_, rfl⟩
      rw [hN'] at wb
      have H1 := Hid.of (And.intro hg (And.intro hD (And.intro hE hMn)))
      have HN' := Hid.of hN'
      obtain ⟨w2, hw2⟩ : ∃ w2, wr.alloc (.cells #[.int .i64 kk, .int .i64 t, .int .i64 n, .int .i64 m, .int .u64 hh, .string (bs d)] 34) = w2 := ⟨_, rfl⟩
      have k2 : Keeps (fun _ => False) wr w2 := by rw [← hw2]; exact (Keeps.refl _ _).alloc _
      have b2 : w2.heap[wr.heap.size]? = some (.cells #[.int .i64 kk, .int .i64 t, .int .i64 n, .int .i64 m, .int .u64 hh, .string (bs d)] 34 (0, 0)) := by rw [← hw2]; exact alloc_new _ _
      obtain ⟨ob, hob⟩ : ∃ ob, wr.heap.size = ob := ⟨_, rfl⟩
      rw [hob] at b2
      have y5 := cell_of (v := .string (bs d)) b2 5 rfl
      clear b2
      have HK2 := Hid.of (HI.out.1.trans k2)
      have hD2 : d.length = D := H1.out.2.1
      have hE2 : D / 16 = E := H1.out.2.2.1
      have HMB := Hid.of (And.intro hMb hdl)
      clear rr hg hE hMn hMn' hN' k2 hMb hdl
      by_cases hbig : (8 * (most : Int)) < (N' : Int)
      · have tb : decide ((8 * (most : Int)) < (N' : Int)) = true := by simpa using hbig
        clear hbig
        go_wp2
        try go_region
        go_wp2
        go_ret
        exact ⟨true, rfl, HK.out.1.trans HK2.out, fun h => by cases h⟩
      · have tb : decide ((8 * (most : Int)) < (N' : Int)) = false := by simpa using hbig
        have hN2 : N' ≤ 8 * most := by omega
        have HT : Hid (∀ x ∈ xs.take (k + 1), x.data.length ≤ 128 * most + 15) := Hid.of (by
          intro x hx
          rw [take_get H1.out.1] at hx
          rcases List.mem_append.1 hx with h | h
          · exact HI.out.2 x h
          · simp only [List.mem_singleton] at h
            subst h
            exact long_data H1.out.2.1 H1.out.2.2.1 H1.out.2.2.2 HN'.out hN2 hm)
        clear hbig HI
        go_wp2
        try go_region
        go_wp2
        go_roundw
        case rel => exact ⟨k + 1, N', by omega, by go_num, by first | rfl | rw [wb], hN2, Hid.of (And.intro HK2.out HT.out)⟩
        case measure => simp [intOf]; omega
    · obtain rfl : k = L := by omega
      have hkd : decide ((k : Int) < (k : Int)) = false := by simp
      have c0 := cell_of (v := .int .i64 Pg) (HI.out.1.at HK.out.2 (fun x => x)) 0 rfl
      have HF := Hid.of (HK.out.1.trans HI.out.1)
      by_cases hbig : most < k
      · have tb : decide (most < k) = true := by simpa using hbig
        have tb2 : decide ((most : Int) < (k : Int)) = true := by simp; omega
        clear hbig HI
        go_wp2
        try go_region
        all_goals
          go_wp2
          go_ret
          first | exact ⟨true, rfl, HF.out, fun h => by cases h⟩ | exact ⟨true, rfl, HF.out.drew, fun h => by cases h⟩
      · have tb : decide (most < k) = false := by simpa using hbig
        have tb2 : decide ((most : Int) < (k : Int)) = false := by simp; omega
        have HT : Hid (xs.length ≤ most ∧ ∀ x ∈ xs, x.data.length ≤ 128 * most + 15) := Hid.of (by
          refine ⟨by rw [HR.out.2.2]; omega, fun x hx => HI.out.2 x ?_⟩
          rw [List.take_of_length_le (by rw [HR.out.2.2]; exact Nat.le_refl _)]; exact hx)
        clear hbig HI
        go_wp2
        try go_region
        all_goals
          go_wp2
          go_ret
          first | exact ⟨_, rfl, HF.out, fun _ => HT.out⟩ | exact ⟨_, rfl, HF.out.drew, fun _ => HT.out⟩
end Go.Proofs.YtagmkkddjdlncaaDoor
