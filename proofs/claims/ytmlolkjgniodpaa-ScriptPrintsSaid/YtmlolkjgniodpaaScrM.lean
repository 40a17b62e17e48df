/- Print of one step; awake. -/
import Derived.Test.YtmlolkjgniodpaaScrL
import Derived.Test.YtmlolkjgniodpaaScrI
set_option linter.unusedVariables false
set_option linter.unusedSimpArgs false
namespace Go.Proofs.Ytmlolkjgniodpaa
open Go.RowKit Go.ChangeMaps
attribute [-go_sem] run_index_string run_neq_struct run_eql_struct run_equalIn_agg
namespace Scr
theorem PAt.str {w : World} {b : Nat} {v : Value} {out : Bs} {bad : Bool} (h : PAt w b v out bad) : ∃ A cap, v = .slice A out.length cap ∧ (convert 116 9 (.slice A out.length cap)).run Try.prog w = .ok (.string (bs out)) w := by
  obtain ⟨A, cap, hv, hc, hA, hr⟩ := OutR.rd (B := 0) ⟨h.2.1, fun _ _ => Nat.zero_le _⟩
  refine ⟨A, cap, hv, string_of_bytes w A out.length cap out rfl hr ?_⟩
  rintro rfl
  obtain ⟨-, h2⟩ := h.2.1
  rcases h2 with ⟨h2, _⟩ | ⟨g, cp, cur, hv2, r⟩
  · rw [hv] at h2; injection h2 with _ e2
  · rw [hv] at hv2; injection hv2 with e1; cases e1
def out4 (j : Nat) : Bs := if j = 0 then [] else [4, 0, 255, 255]
set_option maxRecDepth 100000 in
set_option maxHeartbeats 1000000 in
theorem print4 (w : World) (A : Option Addr) (cap : Nat) (hr : Rd w A (stps [stp4])) :
    Calls Try.prog 51 #[.slice A 1 cap] w fun e w' => e = .returned (.tuple #[.string (bs [4, 0, 255, 255]), .int .i64 0]) ∧ Keeps (fun _ => False) w w' := by
  obtain ⟨b1, o1, s1, x1, x2, x3, x4, x5, x6, x7, hg, rfl, c0, c1, c2, c3, c4, c5, c6⟩ := rstp hr 0 (by simp)
  have hx : (⟨x1, x2, x3, x4, x5, x6, x7⟩ : Stp) = stp4 := by simpa using hg.symm
  unfold stp4 at hx
  injection hx with e1 e2 e3 e4 e5 e6 e7
  subst e1 e2 e3 e4 e5 e6 e7
  simp only [Nat.zero_mul, Addr.add_zero'] at c0 c1 c2 c3 c4 c5 c6
  clear hg
  obtain ⟨w1, hw1⟩ : ∃ w1, w.alloc (.cells #[.slice none 0 0, .bool false] 118) = w1 := ⟨_, rfl⟩
  have p1 : PAt w1 w.heap.size (.slice none 0 0) [] false := by rw [← hw1]; exact ⟨alloc_new _ _, Own.nil _ _ _, by simp [Value.ownBlock]⟩
  have k1 : Keeps (fun _ => False) w w1 := by rw [← hw1]; exact (Keeps.refl _ _).alloc _
  go_enter Try.func51, Try.ntmps51
  go_wp2
  obtain ⟨b, hb⟩ : ∃ b, w.heap.size = b := ⟨_, rfl⟩
  rw [hb] at p1
  try rw [hb]
  have HB := Hid.of hb
  clear hw1 hb
  go_loopw [12] (fun i wr => ∃ (j : Nat) (v : Value), j ≤ 1 ∧ i = .int .i64 j ∧ PAt wr b v (out4 j) false ∧ (∀ g, v.ownBlock = some g → w.heap.size ≤ g) ∧ Keeps (fun _ => False) w wr) (fun i _ => 1 - (intOf i).toNat)
  case atStart => exact ⟨0, _, by omega, rfl, p1, by simp [Value.ownBlock], k1⟩
  case round =>
    clear p1 k1
    obtain ⟨j, v, hj, rfl, P, hv, K⟩ := hrel
    by_cases hlt : j < 1
    · obtain rfl : j = 0 := by omega
      have P0 : PAt wr b v [] false := P
      have r0 := hr.old K
      obtain ⟨A2, cp, hve, -, -, -⟩ := P0.2.1.shape
      subst hve
      obtain ⟨b1', o1', s1', y1, y2, y3, y4, y5, y6, y7, hg, hA, d0, d1, d2, d3, d4, d5, d6⟩ := rstp r0 0 (by simp)
      have hx : (⟨y1, y2, y3, y4, y5, y6, y7⟩ : Stp) = stp4 := by simpa using hg.symm
      unfold stp4 at hx
      injection hx with e1 e2 e3 e4 e5 e6 e7
      subst e1 e2 e3 e4 e5 e6 e7
      cases hA
      simp only [Nat.zero_mul, Addr.add_zero'] at d0 d1 d2 d3 d4 d5 d6
      have P2 : ∀ o, PAt (wr.alloc o) b (.slice A2 ([] : Bs).length cp) [] false := fun o => P0.keep ((Keeps.refl (fun _ => False) wr).alloc o) (fun x => x) (fun _ _ x => x)
      have KKo : ∀ o, Keeps (fun _ => False) w (wr.alloc o) := fun o => K.alloc o
      have HPP := Hid.of P2
      have HKK := Hid.of KKo
      clear P P0 c0 c1 c2 c3 c4 c5 c6 hg r0 hr K P2 KKo
      go_wp2_with fail
      refine (pstep4 _ b _ (HPP.out _)).mono ?_
      rintro e w3 ⟨rfl, v3, P3, at3, k3⟩
      have KK := HKK.out (.cells #[.int .i64 4, .int .i64 0, .int .i64 (-1), .int .i64 0, .int .u64 0, .string (bs []), .int .i64 0] 108)
      have z1 := cell_of (v := .bool false) P3.1 1 rfl
      have HV : Hid (∀ g, v3.ownBlock = some g → w.heap.size ≤ g) := Hid.of (fun g hg => by
        rcases at3 with h | h
        · exact hv g (by rw [← h]; exact hg)
        · have := h g hg; have := KK.size; omega)
      have K3 : Keeps (fun _ => False) w w3 := KK.trans' k3 (fun x hx hl => by
        rcases hx with h | h
        · have := HB.out; omega
        · have := hv x h; omega)
      have HF := Hid.of (And.intro P3 K3)
      clear P3 K3 k3 at3 KK d0 d1 d2 d3 d4 d5 d6 hv
      go_wp2
      go_roundw
      case rel => exact ⟨1, v3, by omega, rfl, HF.out.1, HV.out, HF.out.2⟩
      case measure => simp [intOf]
    · obtain rfl : j = 1 := by omega
      have P1 : PAt wr b v [4, 0, 255, 255] false := P
      obtain ⟨A2, cp, rfl, cv⟩ := P1.str
      have z0 := cell_of (v := .slice A2 ([4, 0, 255, 255] : Bs).length cp) P1.1 0 rfl
      have HK := Hid.of K
      clear P P1 hv K hr c0 c1 c2 c3 c4 c5 c6
      simp only [List.length_cons, List.length_nil, Nat.zero_add, Nat.reduceAdd] at cv z0
      go_wp2
      go_ret2
      exact ⟨rfl, HK.out⟩
end Scr
end Go.Proofs.Ytmlolkjgniodpaa
