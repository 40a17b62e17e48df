/- The handle package's walks: within, Check, Pack, Unpack. -/
import Derived.Test.YtagmkkddjdlncaaDoorClA
import Derived.Laws.ResultCell
set_option linter.unusedVariables false
set_option linter.unusedSimpArgs false
namespace Go.Proofs.YtagmkkddjdlncaaDoor
open Go.RowKit Go.ChangeMaps
namespace Han
set_option maxRecDepth 100000 in
theorem within_any (w : World) (n a b : Int) : Calls Tryd.prog 71 #[.int .i64 n, .int .i64 a, .int .i64 b] w fun e w' => e = .returned (.bool (decide (a ≤ n ∧ n ≤ b))) ∧ w = w' := by
  by_cases h1 : a ≤ n
  · by_cases h2 : n ≤ b
    · have e : decide (a ≤ n ∧ n ≤ b) = true := by simp; omega
      rw [e]; clear e
      go_enter Tryd.func71, Tryd.ntmps71
      go_wp2
      go_ret
      exact ⟨rfl, rfl⟩
    · have e : decide (a ≤ n ∧ n ≤ b) = false := by simp; omega
      rw [e]; clear e
      go_enter Tryd.func71, Tryd.ntmps71
      go_wp2
      go_ret
      exact ⟨rfl, rfl⟩
  · have e : decide (a ≤ n ∧ n ≤ b) = false := by simp; omega
    rw [e]; clear e
    go_enter Tryd.func71, Tryd.ntmps71
    go_wp2
    go_ret
    exact ⟨rfl, rfl⟩
/-- Whether a key may be. -/
def may (t s r n : Int) : Bool := decide (0 ≤ t ∧ t ≤ 7) && decide (0 ≤ s ∧ s ≤ 4159) && decide (1 ≤ r ∧ r ≤ 7) && decide (1 ≤ n ∧ n ≤ 17592186044415)
def chk (t s r n : Int) : Int := if may t s r n then 0 else 12
def key (t s r n : Int) : Value := .agg #[.int .i64 t, .int .i64 s, .int .i64 r, .int .i64 n]
set_option maxRecDepth 100000 in
def ckFrame (x0 : Value) (u : Nat → Value) : Act := { tmps := #[x0, u 1, u 2, u 3, u 4, u 5, u 6, u 7, u 8, u 9, u 10, u 11, u 12, u 13, u 14, u 15, u 16, u 17, u 18, u 19, u 20], defers := [] }
set_option maxRecDepth 100000 in
theorem ckFrame_is (v0 v1 v2 v3 v4 v5 v6 v7 v8 v9 v10 v11 v12 v13 v14 v15 v16 v17 v18 v19 v20 : Value) : ({ tmps := #[v0, v1, v2, v3, v4, v5, v6, v7, v8, v9, v10, v11, v12, v13, v14, v15, v16, v17, v18, v19, v20], defers := [] } : Act) = ckFrame v0 (fun i => #[v0, v1, v2, v3, v4, v5, v6, v7, v8, v9, v10, v11, v12, v13, v14, v15, v16, v17, v18, v19, v20].getD i undef) := rfl
set_option maxRecDepth 100000 in
set_option maxHeartbeats 1000000 in
theorem check_any (w : World) (t s r n : Int) : Calls Tryd.prog 62 #[key t s r n] w fun e w' => e = .returned (.int .i64 (chk t s r n)) ∧ Keeps (fun _ => False) w w' := by
  obtain ⟨w1, hw1⟩ : ∃ w1, w.alloc (.cells #[.int .i64 t, .int .i64 s, .int .i64 r, .int .i64 n] 103) = w1 := ⟨_, rfl⟩
  have k1 : Keeps (fun _ => False) w w1 := by rw [← hw1]; exact (Keeps.refl _ _).alloc _
  have hb1 : w1.heap[w.heap.size]? = some (.cells #[.int .i64 t, .int .i64 s, .int .i64 r, .int .i64 n] 103 (0, 0)) := by rw [← hw1]; exact alloc_new _ _
  have c0 := cell_of (v := .int .i64 t) hb1 0 rfl
  have c1 := cell_of (v := .int .i64 s) hb1 1 rfl
  have c2 := cell_of (v := .int .i64 r) hb1 2 rfl
  have c3 := cell_of (v := .int .i64 n) hb1 3 rfl
  have q1 := within_any w1 t 0 7
  have q2 := within_any w1 s 0 4159
  have q3 := within_any w1 r 1 7
  have q4 := within_any w1 n 1 17592186044415
  unfold chk may key
  generalize decide (0 ≤ t ∧ t ≤ 7) = b1 at *
  generalize decide (0 ≤ s ∧ s ≤ 4159) = b2 at *
  generalize decide (1 ≤ r ∧ r ≤ 7) = b3 at *
  generalize decide (1 ≤ n ∧ n ≤ 17592186044415) = b4 at *
  have HK := Hid.of k1
  clear hb1 k1
  have hb : b1 = false ∨ (b1 = true ∧ b2 = false) ∨ (b1 = true ∧ b2 = true ∧ b3 = false) ∨ (b1 = true ∧ b2 = true ∧ b3 = true ∧ b4 = false) ∨ (b1 = true ∧ b2 = true ∧ b3 = true ∧ b4 = true) := by
    cases b1 <;> cases b2 <;> cases b3 <;> cases b4 <;> simp
  rcases hb with rfl | ⟨rfl, rfl⟩ | ⟨rfl, rfl, rfl⟩ | ⟨rfl, rfl, rfl, rfl⟩ | ⟨rfl, rfl, rfl, rfl⟩
  · go_enter Tryd.func62, Tryd.ntmps62
    go_wp2
    refine wp_scope_once 0 (fun m a' w' => ∃ (x : Value) (u : Nat → Value), a' = ckFrame x u ∧ w' = w1) rfl ?_ ?_
    · rintro m a' w' ⟨x, u, hf, hw⟩
      unfold ckFrame at hf
      subst hf
      subst hw
      go_wp2
      simp only [Exit.jump]
      go_ret
      exact ⟨rfl, HK.out⟩
    · intro hr
      go_wp2_with fail
      refine q1.mono ?_
      rintro e wx ⟨rfl, rfl⟩
      clear q1
      go_wp2
      go_step3
      exact ⟨rfl, 0, _, _, ckFrame_is .., rfl⟩
  · go_enter Tryd.func62, Tryd.ntmps62
    go_wp2
    refine wp_scope_once 0 (fun m a' w' => ∃ (x : Value) (u : Nat → Value), a' = ckFrame x u ∧ w' = w1) rfl ?_ ?_
    · rintro m a' w' ⟨x, u, hf, hw⟩
      unfold ckFrame at hf
      subst hf
      subst hw
      go_wp2
      simp only [Exit.jump]
      go_ret
      exact ⟨rfl, HK.out⟩
    · intro hr
      go_wp2_with fail
      refine q1.mono ?_
      rintro e wx ⟨rfl, rfl⟩
      clear q1
      go_wp2_with fail
      refine q2.mono ?_
      rintro e wx ⟨rfl, rfl⟩
      clear q2
      go_wp2
      go_step3
      exact ⟨rfl, 0, _, _, ckFrame_is .., rfl⟩
  · go_enter Tryd.func62, Tryd.ntmps62
    go_wp2
    refine wp_scope_straight ?_
    go_wp2_with fail
    refine q1.mono ?_
    rintro e wx ⟨rfl, rfl⟩
    clear q1
    go_wp2_with fail
    refine q2.mono ?_
    rintro e wx ⟨rfl, rfl⟩
    clear q2
    go_wp2_with fail
    refine q3.mono ?_
    rintro e wx ⟨rfl, rfl⟩
    clear q3
    go_wp2
    first
      | (try simp only [Exit.noGoto]
         go_ret
         exact ⟨rfl, HK.out⟩)
      | (refine wp_label ?_
         go_wp2
         try simp only [Exit.noGoto]
         go_ret
         exact ⟨rfl, HK.out⟩)

  · go_enter Tryd.func62, Tryd.ntmps62
    go_wp2
    refine wp_scope_straight ?_
    go_wp2_with fail
    refine q1.mono ?_
    rintro e wx ⟨rfl, rfl⟩
    clear q1
    go_wp2_with fail
    refine q2.mono ?_
    rintro e wx ⟨rfl, rfl⟩
    clear q2
    go_wp2_with fail
    refine q3.mono ?_
    rintro e wx ⟨rfl, rfl⟩
    clear q3
    go_wp2_with fail
    refine q4.mono ?_
    rintro e wx ⟨rfl, rfl⟩
    clear q4
    go_wp2
    first
      | (try simp only [Exit.noGoto]
         go_ret
         exact ⟨rfl, HK.out⟩)
      | (refine wp_label ?_
         go_wp2
         try simp only [Exit.noGoto]
         go_ret
         exact ⟨rfl, HK.out⟩)

  · go_enter Tryd.func62, Tryd.ntmps62
    go_wp2
    refine wp_scope_straight ?_
    go_wp2_with fail
    refine q1.mono ?_
    rintro e wx ⟨rfl, rfl⟩
    clear q1
    go_wp2_with fail
    refine q2.mono ?_
    rintro e wx ⟨rfl, rfl⟩
    clear q2
    go_wp2_with fail
    refine q3.mono ?_
    rintro e wx ⟨rfl, rfl⟩
    clear q3
    go_wp2_with fail
    refine q4.mono ?_
    rintro e wx ⟨rfl, rfl⟩
    clear q4
    go_wp2
    first
      | (try simp only [Exit.noGoto]
         go_ret
         exact ⟨rfl, HK.out⟩)
      | (refine wp_label ?_
         go_wp2
         try simp only [Exit.noGoto]
         go_ret
         exact ⟨rfl, HK.out⟩)

theorem chk_may {t s r n : Int} (h : may t s r n = true) : chk t s r n = 0 := by unfold chk; rw [if_pos h]
theorem chk_not {t s r n : Int} (h : may t s r n = false) : chk t s r n = 12 := by unfold chk; rw [h]; rfl
theorem may_iff {t s r n : Int} : may t s r n = true ↔ (0 ≤ t ∧ t ≤ 7) ∧ (0 ≤ s ∧ s ≤ 4159) ∧ (1 ≤ r ∧ r ≤ 7) ∧ (1 ≤ n ∧ n ≤ 17592186044415) := by
  unfold may; simp [and_assoc]
/-- A key's bits. -/
def pk (t s r n : Nat) : Nat := t + 16 * r + 128 * s + 1048576 * n
theorem or_pk (t s r n : Nat) (ht : t ≤ 7) (hs : s ≤ 4159) (hr : r ≤ 7) (hn : n ≤ 17592186044415) :
    bits .or .u64 (bits .or .u64 (bits .or .u64 (t : Int) ((r : Int) * 16)) ((s : Int) * 128)) ((n : Int) * 1048576) = (pk t s r n : Int) := by
  have e1 : bits .or .u64 (t : Int) ((r : Int) * 16) = ((t + 16 * r : Nat) : Int) := by
    rw [show (r : Int) * 16 = ((16 * r : Nat) : Int) by omega, u64_or_nat _ _ (by omega) (by omega), Nat.or_comm, nat_join 4 (16 * r) t (by omega) (by omega)]
    congr 1; omega
  have e2 : bits .or .u64 ((t + 16 * r : Nat) : Int) ((s : Int) * 128) = ((t + 16 * r + 128 * s : Nat) : Int) := by
    rw [show (s : Int) * 128 = ((128 * s : Nat) : Int) by omega, u64_or_nat _ _ (by omega) (by omega), Nat.or_comm, nat_join 7 (128 * s) _ (by omega) (by omega)]
    congr 1; omega
  have e3 : bits .or .u64 ((t + 16 * r + 128 * s : Nat) : Int) ((n : Int) * 1048576) = ((pk t s r n : Nat) : Int) := by
    rw [show (n : Int) * 1048576 = ((1048576 * n : Nat) : Int) by omega, u64_or_nat _ _ (by omega) (by omega), Nat.or_comm, nat_join 20 (1048576 * n) _ (by omega) (by omega)]
    unfold pk; congr 1; omega
  rw [e1, e2, e3]
set_option maxRecDepth 100000 in
set_option maxHeartbeats 1000000 in
theorem pack_any (w : World) (t s r n : Nat) (ht : t ≤ 7) (hs : s ≤ 4159) (hr1 : 1 ≤ r) (hr : r ≤ 7) (hn1 : 1 ≤ n) (hn : n ≤ 17592186044415) : Calls Tryd.prog 61 #[key t s r n] w fun e w' => e = .returned (.tuple #[.int .u64 (pk t s r n), .int .i64 0]) ∧ Keeps (fun _ => False) w w' := by
  obtain ⟨w1, hw1⟩ : ∃ w1, w.alloc (.cells #[.int .i64 t, .int .i64 s, .int .i64 r, .int .i64 n] 103) = w1 := ⟨_, rfl⟩
  have k1 : Keeps (fun _ => False) w w1 := by rw [← hw1]; exact (Keeps.refl _ _).alloc _
  have hb1 : w1.heap[w.heap.size]? = some (.cells #[.int .i64 t, .int .i64 s, .int .i64 r, .int .i64 n] 103 (0, 0)) := by rw [← hw1]; exact alloc_new _ _
  have c0 := cell_of (v := .int .i64 t) hb1 0 rfl
  have c1 := cell_of (v := .int .i64 s) hb1 1 rfl
  have c2 := cell_of (v := .int .i64 r) hb1 2 rfl
  have c3 := cell_of (v := .int .i64 n) hb1 3 rfl
  have q := check_any w1 t s r n
  rw [chk_may (may_iff.2 (by omega))] at q
  have ho := or_pk t s r n ht hs hr hn
  obtain ⟨P, hP⟩ : ∃ P, (pk t s r n : Int) = P := ⟨_, rfl⟩
  rw [hP] at ho ⊢
  unfold key at q ⊢
  have HK := Hid.of k1
  have HB := Hid.of hb1
  clear hP k1 hb1
  go_enter Tryd.func61, Tryd.ntmps61
  go_wp2_with fail
  refine q.mono ?_
  rintro e wx ⟨rfl, k2⟩
  have hb2 := k2.at HB.out (fun x => x)
  have d0 := cell_of (v := .int .i64 t) hb2 0 rfl
  have d1 := cell_of (v := .int .i64 s) hb2 1 rfl
  have d2 := cell_of (v := .int .i64 r) hb2 2 rfl
  have d3 := cell_of (v := .int .i64 n) hb2 3 rfl
  have HK2 := Hid.of (HK.out.trans k2)
  clear q hb2 k2 c0 c1 c2 c3
  go_wp2
  go_ret2
  exact ⟨rfl, HK2.out⟩
theorem set4 {w : World} {b : Nat} {x0 x1 x2 x3 : Value} {t : TypeId} (h : w.heap[b]? = some (.cells #[x0, x1, x2, x3] t (0, 0))) (y0 y1 y2 y3 : Value) :
    ((((w.setCell ⟨b, 0, none⟩ y0).setCell ⟨b, 1, none⟩ y1).setCell ⟨b, 2, none⟩ y2).setCell ⟨b, 3, none⟩ y3).heap[b]? = some (.cells #[y0, y1, y2, y3] t (0, 0)) := by
  have h0 := set_of h 0 y0
  have h1 := set_of h0 1 y1
  have h2 := set_of h1 2 y2
  exact set_of h2 3 y3
def ut (h : Nat) : Nat := h % 16
def ur (h : Nat) : Nat := h / 16 % 8
def us (h : Nat) : Nat := h / 128 % 8192
def un (h : Nat) : Nat := h / 1048576
def umay (h : Nat) : Bool := may (ut h) (us h) (ur h) (un h)
/-- What Unpack answers. -/
def upV (h : Nat) : Value := if umay h then .tuple #[key (ut h) (us h) (ur h) (un h), .int .i64 0] else .tuple #[key 0 0 0 0, .int .i64 5]
theorem and_ut (h : Nat) (hh : h < 18446744073709551616) : bits .and .u64 (h : Int) 15 = (ut h : Int) := by
  have := u64_and_nat h 15 hh (by omega)
  rw [nat_mask4] at this
  exact this
theorem and_ur (h : Nat) (hh : h < 18446744073709551616) : bits .and .u64 ((h : Int) / 16) 7 = (ur h : Int) := by
  have := u64_and_nat (h / 16) 7 (by omega) (by omega)
  rw [nat_mask3] at this
  exact this
theorem and_us (h : Nat) (hh : h < 18446744073709551616) : bits .and .u64 ((h : Int) / 128) 8191 = (us h : Int) := by
  have := u64_and_nat (h / 128) 8191 (by omega) (by omega)
  rw [show h / 128 &&& 8191 = h / 128 % 8192 from Nat.and_two_pow_sub_one_eq_mod _ 13] at this
  exact this
set_option maxRecDepth 100000 in
set_option maxHeartbeats 1000000 in
theorem unpack_any (w : World) (h : Nat) (hh : h < 18446744073709551616) : Calls Tryd.prog 52 #[.int .u64 h] w fun e w' => e = .returned (upV h) ∧ Keeps (fun _ => False) w w' := by
  have a1 := and_ut h hh
  have a2 := and_ur h hh
  have a3 := and_us h hh
  have a4 : (h : Int) / 1048576 = (un h : Int) := rfl
  have b1 : ut h < 16 := by unfold ut; omega
  have b2 : ur h < 8 := by unfold ur; omega
  have b3 : us h < 8192 := by unfold us; omega
  have b4 : un h < 17592186044416 := by unfold un; omega
  have hu : upV h = if may (ut h) (us h) (ur h) (un h) then .tuple #[key (ut h) (us h) (ur h) (un h), .int .i64 0] else .tuple #[key 0 0 0 0, .int .i64 5] := rfl
  rw [hu]
  generalize ut h = t at *
  generalize us h = s at *
  generalize ur h = r at *
  generalize un h = n at *
  clear hu
  obtain ⟨A, hA⟩ : ∃ A, w.heap.size = A := ⟨_, rfl⟩
  obtain ⟨w1, hw1⟩ : ∃ w1, (w.alloc (.cells #[.int .i64 0, .int .i64 0, .int .i64 0, .int .i64 0] 103)).alloc (.cells #[.int .i64 t, .int .i64 s, .int .i64 r, .int .i64 n] 103) = w1 := ⟨_, rfl⟩
  have k1 : Keeps (fun _ => False) w w1 := by rw [← hw1]; exact ((Keeps.refl _ _).alloc _).alloc _
  have hb1 : w1.heap[A + 1]? = some (.cells #[.int .i64 t, .int .i64 s, .int .i64 r, .int .i64 n] 103 (0, 0)) := by
    rw [← hw1, ← hA]
    have := alloc_new (w.alloc (.cells #[.int .i64 0, .int .i64 0, .int .i64 0, .int .i64 0] 103)) (.cells #[.int .i64 t, .int .i64 s, .int .i64 r, .int .i64 n] 103)
    simpa using this
  have q := check_any w1 t s r n
  have c0 := cell_of (v := .int .i64 t) hb1 0 rfl
  have c1 := cell_of (v := .int .i64 s) hb1 1 rfl
  have c2 := cell_of (v := .int .i64 r) hb1 2 rfl
  have c3 := cell_of (v := .int .i64 n) hb1 3 rfl
  have ha1 : w1.heap[A]? = some (.cells #[.int .i64 0, .int .i64 0, .int .i64 0, .int .i64 0] 103 (0, 0)) := by
    rw [← hw1, ← hA]
    exact ((Keeps.refl _ _).alloc _).at (F := fun _ => False) (alloc_new w (.cells #[.int .i64 0, .int .i64 0, .int .i64 0, .int .i64 0] 103)) (fun x => x)
  have HK := Hid.of (And.intro k1 (And.intro hb1 ha1))
  clear k1 hb1 ha1
  unfold key at q ⊢
  cases hm : may t s r n
  · rw [chk_not hm] at q
    clear hm
    go_enter Tryd.func52, Tryd.ntmps52
    go_wp2_with fail
    refine q.mono ?_
    rintro e w2 ⟨rfl, k2⟩
    obtain ⟨k1, hb1, ha1⟩ := HK.out
    have hb2 := k2.at hb1 (fun x => x)
    have ha2 := k2.at ha1 (fun x => x)
    have d0 := free_of ha2 0
    have d1 := free_of ha2 1
    have d2 := free_of ha2 2
    have d3 := free_of ha2 3
    have z0 := cell_of (v := .int .i64 0) ha2 0 rfl
    have z1 := cell_of (v := .int .i64 0) ha2 1 rfl
    have z2 := cell_of (v := .int .i64 0) ha2 2 rfl
    have z3 := cell_of (v := .int .i64 0) ha2 3 rfl
    have g0 := cell_of (v := .int .i64 t) hb2 0 rfl
    have g1 := cell_of (v := .int .i64 s) hb2 1 rfl
    have g2 := cell_of (v := .int .i64 r) hb2 2 rfl
    have g3 := cell_of (v := .int .i64 n) hb2 3 rfl
    obtain ⟨w3, hw3⟩ : ∃ w3, (((w2.setCell ⟨A, 0, none⟩ (.int .i64 0)).setCell ⟨A, 1, none⟩ (.int .i64 0)).setCell ⟨A, 2, none⟩ (.int .i64 0)).setCell ⟨A, 3, none⟩ (.int .i64 0) = w3 := ⟨_, rfl⟩
    have h3 := set4 ha2 (.int .i64 0) (.int .i64 0) (.int .i64 0) (.int .i64 0)
    rw [hw3] at h3
    have e0 := cell_of (v := (.int .i64 0)) h3 0 rfl
    have e1 := cell_of (v := (.int .i64 0)) h3 1 rfl
    have e2 := cell_of (v := (.int .i64 0)) h3 2 rfl
    have e3 := cell_of (v := (.int .i64 0)) h3 3 rfl
    have K3 : Keeps (fun _ => False) w w3 := by
      rw [← hw3]
      exact ((((k1.trans k2).setCell _ _ (.inr (Nat.le_of_eq hA))).setCell _ _ (.inr (Nat.le_of_eq hA))).setCell _ _ (.inr (Nat.le_of_eq hA))).setCell _ _ (.inr (Nat.le_of_eq hA))
    have HK3 := Hid.of K3
    clear K3 h3 ha2 hb2 ha1 hb1 k1 k2 HK hw1 c0 c1 c2 c3 q
    go_wp2
    refine bodyPost_ret (v := .tuple #[.agg #[.int .i64 0, .int .i64 0, .int .i64 0, .int .i64 0], .int .i64 5]) ?_ ?_ ?_
    · rw [results_cell_tmp (p := 2) (u := 3) (ty := 103) rfl]
      go_simp
    · rfl
    · exact ⟨rfl, HK3.out⟩
  · rw [chk_may hm] at q
    clear hm
    go_enter Tryd.func52, Tryd.ntmps52
    go_wp2_with fail
    refine q.mono ?_
    rintro e w2 ⟨rfl, k2⟩
    obtain ⟨k1, hb1, ha1⟩ := HK.out
    have hb2 := k2.at hb1 (fun x => x)
    have ha2 := k2.at ha1 (fun x => x)
    have d0 := free_of ha2 0
    have d1 := free_of ha2 1
    have d2 := free_of ha2 2
    have d3 := free_of ha2 3
    have z0 := cell_of (v := .int .i64 0) ha2 0 rfl
    have z1 := cell_of (v := .int .i64 0) ha2 1 rfl
    have z2 := cell_of (v := .int .i64 0) ha2 2 rfl
    have z3 := cell_of (v := .int .i64 0) ha2 3 rfl
    have g0 := cell_of (v := .int .i64 t) hb2 0 rfl
    have g1 := cell_of (v := .int .i64 s) hb2 1 rfl
    have g2 := cell_of (v := .int .i64 r) hb2 2 rfl
    have g3 := cell_of (v := .int .i64 n) hb2 3 rfl
    obtain ⟨w3, hw3⟩ : ∃ w3, (((w2.setCell ⟨A, 0, none⟩ (.int .i64 t)).setCell ⟨A, 1, none⟩ (.int .i64 s)).setCell ⟨A, 2, none⟩ (.int .i64 r)).setCell ⟨A, 3, none⟩ (.int .i64 n) = w3 := ⟨_, rfl⟩
    have h3 := set4 ha2 (.int .i64 t) (.int .i64 s) (.int .i64 r) (.int .i64 n)
    rw [hw3] at h3
    have e0 := cell_of (v := (.int .i64 t)) h3 0 rfl
    have e1 := cell_of (v := (.int .i64 s)) h3 1 rfl
    have e2 := cell_of (v := (.int .i64 r)) h3 2 rfl
    have e3 := cell_of (v := (.int .i64 n)) h3 3 rfl
    have K3 : Keeps (fun _ => False) w w3 := by
      rw [← hw3]
      exact ((((k1.trans k2).setCell _ _ (.inr (Nat.le_of_eq hA))).setCell _ _ (.inr (Nat.le_of_eq hA))).setCell _ _ (.inr (Nat.le_of_eq hA))).setCell _ _ (.inr (Nat.le_of_eq hA))
    have HK3 := Hid.of K3
    clear K3 h3 ha2 hb2 ha1 hb1 k1 k2 HK hw1 c0 c1 c2 c3 q
    go_wp2
    refine bodyPost_ret (v := .tuple #[.agg #[.int .i64 t, .int .i64 s, .int .i64 r, .int .i64 n], .int .i64 0]) ?_ ?_ ?_
    · rw [results_cell_tmp (p := 2) (u := 3) (ty := 103) rfl]
      go_simp
    · rfl
    · exact ⟨rfl, HK3.out⟩
end Han
end Go.Proofs.YtagmkkddjdlncaaDoor
