/- The script package's tape: handle. -/
import Derived.Test.YtmlolkjgniodpaaScrB
set_option linter.unusedVariables false
set_option linter.unusedSimpArgs false
namespace Go.Proofs.Ytmlolkjgniodpaa
open Go.RowKit Go.ChangeMaps
namespace Scr
theorem XAt.cells {w : World} {b : Nat} {s : Stp} (h : XAt w b s) : w.cell? ⟨b, 4, none⟩ = some (.int .u64 s.handle) ∧ w.cell? ⟨b, 6, none⟩ = some (.int .i64 s.back) ∧ w.frozen? ⟨b, 4, none⟩ = false ∧ w.frozen? ⟨b, 6, none⟩ = false :=
  ⟨cell_of h 4 rfl, cell_of h 6 rfl, free_of h 4, free_of h 6⟩
set_option maxRecDepth 100000 in
set_option maxHeartbeats 1000000 in
theorem handle_any (w : World) (b xb : Nat) (t : Tp) (s : Stp) (ht : TAt w b t) (hx : XAt w xb s) (hne : b ≠ xb) (h0 : s.handle = 0) (hl : t.rest.length ≤ 1000000) :
    Calls Try.prog 71 #[.pointer (some ⟨b, 0, none⟩), .pointer (some ⟨xb, 0, none⟩)] w fun e w' => e = .returned (.tuple #[]) ∧ TAt w' b (thand t).2 ∧ XAt w' xb { s with back := (thand t).1.1, handle := (thand t).1.2 } ∧ Keeps (fun x => x = b ∨ x = xb) w w' := by
  have q := one_any w b t ht hl
  obtain ⟨b1, b2⟩ := tone_bd t
  have hr : (tone t).2.rest.length ≤ 1000000 := by have := tb_rest 1 t; unfold tone; simp only []; omega
  by_cases hz : (tone t).1 < 255
  · have e : thand t = (((tone t).1, 0), (tone t).2) := by unfold thand; rw [if_pos hz]
    rw [e]
    have e2 : ({ s with back := (tone t).1, handle := 0 } : Stp) = { s with back := (tone t).1 } := by rw [← h0]
    simp only []
    rw [e2]
    clear e e2 h0 ht
    generalize (tone t).1 = n at *
    generalize (tone t).2 = t1 at *
    go_enter Try.func71, Try.ntmps71
    go_wp2_with fail
    refine q.mono ?_
    rintro e w1 ⟨rfl, h1, k1⟩
    have hx1 := hx.keep k1 (fun e => hne e.symm)
    obtain ⟨c4, c6, f4, f6⟩ := hx1.cells
    have hx2 := hx1.set_back n
    have k2 := kset w1 xb 6 (.int .i64 n)
    obtain ⟨w2, hw2⟩ : ∃ w2, w1.setCell ⟨xb, 6, none⟩ (.int .i64 n) = w2 := ⟨_, rfl⟩
    rw [hw2] at hx2 k2
    have c2 : w2.cell? ⟨xb, 6, none⟩ = some (.int .i64 n) := cell_of hx2 6 rfl
    have HF := Hid.of (And.intro (h1.keep k2 hne) (And.intro hx2 ((k1.mono (fun _ _ e => .inl e)).trans (k2.mono (fun _ _ e => .inr e)) : Keeps (fun x => x = b ∨ x = xb) w w2)))
    clear hx hx1 hx2 k1 k2 h1 q
    go_wp2
    refine bodyPost_ret (results_none rfl _ _ _) rfl ?_
    exact ⟨rfl, HF.out⟩
  · have e : thand t = ((0, hv (tb 8 (tone t).2).1), (tb 8 (tone t).2).2) := by unfold thand; rw [if_neg hz]
    rw [e]
    simp only []
    have hl8 : (tb 8 (tone t).2).1.length = 8 := by rw [tb_len]; split <;> rfl
    clear e ht
    generalize (tone t).1 = n at *
    generalize (tone t).2 = t1 at *
    have q2 := fun (w1 : World) (h : TAt w1 b t1) => bytes_any w1 b t1 8 h (by omega) hr
    generalize (tb 8 t1).1 = l at *
    generalize (tb 8 t1).2 = t2 at *
    go_enter Try.func71, Try.ntmps71
    go_wp2_with fail
    refine q.mono ?_
    rintro e w1 ⟨rfl, h1, k1⟩
    have hx1 := hx.keep k1 (fun e => hne e.symm)
    obtain ⟨c4, c6, f4, f6⟩ := hx1.cells
    have hx2 := (hx1.set_back n).set_back 0
    have k2 := (kset w1 xb 6 (.int .i64 n)).trans (kset _ xb 6 (.int .i64 0))
    obtain ⟨w2, hw2⟩ : ∃ w2, (w1.setCell ⟨xb, 6, none⟩ (.int .i64 n)).setCell ⟨xb, 6, none⟩ (.int .i64 0) = w2 := ⟨_, rfl⟩
    rw [hw2] at hx2 k2
    have h2 := h1.keep k2 hne
    have K2 : Keeps (fun x => x = b ∨ x = xb) w w2 := (k1.mono (fun _ _ e => .inl e)).trans (k2.mono (fun _ _ e => .inr e))
    clear hx hx1 k1 k2 h1 q
    go_wp2_with fail
    refine (q2 _ h2).mono ?_
    rintro e w3 ⟨rfl, h3, k3⟩
    have hx3 := hx2.keep k3 (fun e => hne e.symm)
    have K3 := K2.trans (k3.mono (fun _ _ e => .inl e))
    obtain ⟨w4, cap, cv, rd, k4⟩ := bytes_conv w3 l
    have hx4 := hx3.keep k4 (fun x => x)
    have h4 := h3.keep k4 (fun x => x)
    have K4 := K3.trans (k4.mono (fun _ _ e => e.elim))
    have hxl := lt_of hx3
    obtain ⟨g, hg⟩ : ∃ g, w3.heap.size = g := ⟨_, rfl⟩
    rw [hg] at cv rd hxl
    clear c4 c6 f4 f6 h2 h3 hx2 hx3 K2 K3 k3 k4 hw2
    go_wp2
    go_loopw [23] (fun i wr => ∃ j : Nat, j ≤ 8 ∧ i = .int .i64 j ∧ TAt wr b t2 ∧ XAt wr xb { s with back := 0, handle := hv (l.take j) } ∧ Rd wr (some ⟨g, 0, none⟩) (u8s l) ∧ Keeps (fun x => x = b ∨ x = xb) w wr) (fun i _ => 8 - (intOf i).toNat)
    case atStart =>
      refine ⟨0, Nat.zero_le _, rfl, h4, ?_, rd, K4⟩
      have e : ({ s with back := 0, handle := hv (l.take 0) } : Stp) = { s with back := 0 } := by rw [List.take_zero]; show ({ s with back := 0, handle := 0 } : Stp) = _; rw [← h0]
      rw [e]; exact hx4
    case round =>
      clear h4 hx4 rd K4 cv
      obtain ⟨j, hj, rfl, h4, hx4, rd, K4⟩ := hrel
      by_cases hlt : j < 8
      · have hob := or_byte l j (by omega) hlt
        have cj : wr.cell? ⟨g, j, none⟩ = some (.int .u8 (byteAt l j)) := by
          have hu : (u8s l)[j]? = some (.int .u8 (byteAt l j)) := by
            unfold u8s byteAt
            rw [List.getElem?_map, List.getElem?_eq_getElem (by omega)]
            simp [List.getD_eq_getElem?_getD, List.getElem?_eq_getElem (show j < l.length by omega)]
          obtain ⟨ad, e, hc⟩ := rd j _ hu
          cases e
          simpa [addr_add] using hc
        have hbb := byteAt_bd l j
        obtain ⟨hb1, hb2⟩ := hbb
        have hx5 := hx4.set_handle (hv (l.take (j + 1)))
        obtain ⟨c4, c6, f4, f6⟩ := hx4.cells
        simp only [] at c4
        have hJ : ((8 : Int) * j).toNat = 8 * j := by omega
        generalize hv (l.take j) = hj0 at *
        obtain ⟨hj1, hjE⟩ : ∃ x, hv (l.take (j + 1)) = x := ⟨_, rfl⟩
        rw [hjE] at hob hx5
        have HE := Hid.of hjE
        clear hjE
        generalize byteAt l j = bj at *
        have HX := Hid.of hx5
        have hw1 : IntKind.i64.wrap (8 * (j : Int)) = 8 * (j : Int) := by rw [IntKind.wrap_i64]; omega
        have hw0 : 0 ≤ 8 * (j : Int) := by omega
        have hw2 : 8 * (j : Int) ≤ 64 := by omega
        have hsh : ∀ yk, Op.shift .shl .u64 bj yk (8 * (j : Int)) = pure (.int .u64 (IntKind.u64.wrap (bj * 2 ^ (8 * j)))) := fun yk => by rw [shift_shl_u64 (h₀ := hw0) (h₁ := hw2), hJ]
        have HOB := Hid.of hob
        obtain ⟨sb, hsb⟩ : ∃ sb, IntKind.u64.wrap (bj * 2 ^ (8 * j)) = sb := ⟨_, rfl⟩
        rw [hsb] at hsh hob
        clear hx5 hx4 hJ hsb
        go_wp2
        go_still_tail 14, (by kernel_rfl)
        change wpList _ _ _ _ _ wr.drew
        have c4d : wr.drew.cell? ⟨xb, 4, none⟩ = some (.int .u64 hj0) := c4
        have f4d : wr.drew.frozen? ⟨xb, 4, none⟩ = false := f4
        clear hob hsh hw1 hw0 hw2 c4 f4 c6 f6 cj
        go_wp2
        go_roundw
        case rel =>
          rw [HOB.out]
          have k6 := (kset wr xb 4 (.int .u64 hj1)).drew
          refine ⟨j + 1, by omega, by go_num, h4.keep k6 hne, by rw [HE.out]; exact HX.out, rd.keep k6 (fun ad ha _ e => by cases ha; simp only [] at e; omega), K4.trans (k6.mono (fun _ _ e => Or.inr e))⟩
        case measure => simp [intOf]; omega
      · have hj8 : j = 8 := by omega
        subst hj8
        have e : l.take 8 = l := List.take_of_length_le (by omega)
        rw [e] at hx4
        have HF := Hid.of (And.intro h4 (And.intro hx4 K4))
        clear h4 hx4 K4 rd e
        go_wp2
        first
          | (refine bodyPost_ret (results_none rfl _ _ _) rfl ?_)
          | go_end0
        exact ⟨rfl, HF.out⟩
end Scr
end Go.Proofs.Ytmlolkjgniodpaa
