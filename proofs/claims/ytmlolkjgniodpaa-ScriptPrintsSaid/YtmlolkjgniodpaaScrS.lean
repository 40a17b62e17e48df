/- The script package's pen: handle, one given. -/
import Derived.Test.YtmlolkjgniodpaaScrR
set_option linter.unusedVariables false
set_option linter.unusedSimpArgs false
namespace Go.Proofs.Ytmlolkjgniodpaa
open Go.RowKit Go.ChangeMaps
attribute [-go_sem] run_index_string run_neq_struct run_eql_struct run_equalIn_agg
namespace Scr
set_option maxRecDepth 100000 in
set_option maxHeartbeats 4000000 in
theorem phand1 (w : World) (b xb : Nat) (v : Value) (out : Bs) (bad : Bool) (s : Stp) (hp : PAt w b v out bad) (hx : XAt w xb s) (hne : b ≠ xb) (hvx : v.ownBlock ≠ some xb) (hl : out.length ≤ 100000000) (hz : s.handle ≠ 0) (hh0 : 0 ≤ s.handle) (hh1 : s.handle < 18446744073709551616) :
    Calls Try.prog 77 #[.pointer (some ⟨b, 0, none⟩), .pointer (some ⟨xb, 0, none⟩)] w fun e w' => e = .returned (.tuple #[]) ∧
      ∃ v', PAt w' b v' (out ++ 255 :: le64 8 s.handle) (bad || !okH s) ∧ XAt w' xb { s with back := 0, handle := 0 } ∧ (v'.ownBlock = v.ownBlock ∨ ∀ g, v'.ownBlock = some g → w.heap.size ≤ g) ∧ Keeps (fun x => x = b ∨ v.ownBlock = some x ∨ x = xb) w w' := by
  obtain ⟨hb, ho, hvb⟩ := hp
  have c0 := cell_of hb 0 rfl
  have c1 := cell_of (v := .bool bad) hb 1 rfl
  have f1 := free_of hb 1
  obtain ⟨a4, a6, g4, g6⟩ := hx.cells
  obtain ⟨A, cap, hv, -, -, -⟩ := ho.shape
  subst hv
  obtain ⟨nb, hnb⟩ : ∃ nb, (bad || !okH s) = nb := ⟨_, rfl⟩
  have HNB : Hid ((bad || !okH s) = nb) := Hid.of hnb
  rw [hnb]
  clear hnb
  obtain ⟨w1, hw1⟩ : ∃ w1, w.setCell ⟨b, 1, none⟩ (.bool nb) = w1 := ⟨_, rfl⟩
  have k1 := kset w b 1 (.bool nb)
  have p1 : PAt (w.setCell ⟨b, 1, none⟩ (.bool nb)) b (.slice A out.length cap) out nb := ⟨set_of hb 1 _, ho.setCell _ _ (by exact hvb), hvb⟩
  rw [hw1] at k1 p1
  have x1 := hx.keep k1 (fun e => hne e.symm)
  obtain ⟨b4, b6, h4, h6⟩ := x1.cells
  have c01 := cell_of (v := .slice A out.length cap) p1.1 0 rfl
  have l1 : b < w1.heap.size := lt_of p1.1
  have lx1 : xb < w1.heap.size := lt_of x1
  have HP1 := Hid.of p1
  have HPo : Hid (Own w1 5 1 (.slice A out.length cap) out.length (u8s out)) := Hid.of p1.2.1
  have HX1 := Hid.of x1
  have HK1 := Hid.of k1
  have HW1 := Hid.of hw1
  have HBD := Hid.of (hbad_cases bad s.back s.handle)
  have e8 : IntKind.u8.wrap s.back = s.back % 256 := IntKind.wrap_u8 _
  have HZ := Hid.of hz
  obtain ⟨hd, hhd⟩ : ∃ hd, s.handle = hd := ⟨_, rfl⟩
  have HHD := Hid.of hhd
  have hz0 : (hd == 0) = false := by rw [← hhd]; simpa using hz
  have hz00 : (hd != 0) = true := by rw [← hhd]; simpa using hz
  have hzz : hd ≠ 0 := by rw [← hhd]; exact hz
  rw [hhd] at a4 b4 HBD hh0 hh1 HZ
  rw [hhd]
  obtain ⟨bk, hbk⟩ : ∃ bk, s.back = bk := ⟨_, rfl⟩
  have HBK := Hid.of hbk
  rw [hbk] at a6 b6 HBD
  clear hb ho hx p1 x1 k1 hz hw1 hbk hhd hzz e8
  go_enter Try.func77, Try.ntmps77
  go_upto_region 0 with fail
  go_cut [5] (fun s wx => wx = w1)
  case first =>
    have HO : Hid (nb = (bad || !decide (0 ≤ bk ∧ bk < 255 ∧ (bk = 0 ∨ hd = 0)))) := Hid.of (by rw [← HNB.out]; unfold okH; rw [HBK.out, HHD.out])
    rcases HBD.out with rfl | ⟨rfl, h1⟩ | ⟨rfl, h0, h1⟩ | ⟨rfl, h0, h1, h2⟩ | ⟨rfl, h0, h1, h2⟩ | ⟨rfl, h1⟩
    · obtain rfl : nb = true := by rw [HO.out]; rfl
      have hw1 := HW1.out
      go_wp2_with fail
      go_meet
      first | rfl | exact ⟨rfl, rfl⟩
    · obtain rfl : nb = true := by rw [HO.out]; simp; omega
      have hd1 : decide (bk < 0) = true := by simp; omega
      have hw1 := HW1.out
      go_wp2_with fail
      go_meet
      first | rfl | exact ⟨rfl, rfl⟩
    · obtain rfl : nb = true := by rw [HO.out]; simp; omega
      have hd1 : decide (bk < 0) = false := by simp; omega
      have hd2 : decide (255 ≤ bk) = true := by simp; omega
      have hw1 := HW1.out
      go_wp2_with fail
      go_meet
      first | rfl | exact ⟨rfl, rfl⟩
    · obtain rfl : nb = true := by rw [HO.out]; simp; omega
      have hd1 : decide (bk < 0) = false := by simp; omega
      have hd2 : decide (255 ≤ bk) = false := by simp; omega
      have hd3 : decide (0 < bk) = true := by simp; omega
      have hw1 := HW1.out
      go_wp2_with fail
      go_meet
      first | rfl | exact ⟨rfl, rfl⟩
    · exact absurd h2 HZ.out
    · subst h1
      obtain rfl : nb = false := by rw [HO.out]; simp
      have hw1 := HW1.out
      go_wp2_with fail
      go_meet
      first | rfl | exact ⟨rfl, rfl⟩
  case rest =>
    first | rw [hcut] | rw [hcut.2]
    clear hcut
    go_wp2_with (at_builtin; refine wpList_app1 slBytes w1 rfl _ _ rfl (.slice A out.length cap) out.length (u8s out) rfl HPo.out [.int .u8 255] rfl rfl (by simp [Value.oneCell']) (by unfold maxLen; omega) (by omega) ?_; intro v5 w5 o5 k5 at5; obtain ⟨A5, c5, rfl, cc5, ff5, P5, at6, K5⟩ := pen_app (m := 1) (news := [255]) HP1.out rfl (by exact o5) k5 at5; obtain ⟨w6, hw6⟩ : ∃ w6, w5.setCell ⟨b, 0, none⟩ (.slice A5 (out.length + 1) c5) = w6 := ⟨_, rfl⟩; rw [hw6] at P5 K5; have x6 := HX1.out.keep K5 (fun e => by rcases e with e | e; { exact hne e.symm }; { exact hvx e }); have HF := Hid.of (And.intro P5 (And.intro x6 (And.intro at6 K5))); clear o5 k5 at5 P5 K5 at6 x6)
    go_loopw [70] (fun i wr => ∃ (j : Nat) (v5 : Value), j ≤ 8 ∧ i = .int .i64 j ∧ PAt wr b v5 (out ++ 255 :: le64 j hd) nb ∧ XAt wr xb s ∧ (v5.ownBlock = (Value.slice A out.length cap).ownBlock ∨ ∀ g, v5.ownBlock = some g → w1.heap.size ≤ g) ∧ Keeps (fun x => x = b ∨ (Value.slice A out.length cap).ownBlock = some x) w1 wr) (fun i _ => 8 - (intOf i).toNat)
    case atStart => exact ⟨0, _, Nat.zero_le _, rfl, HF.out.1, HF.out.2.1, HF.out.2.2.1, HF.out.2.2.2⟩
    case round =>
      clear HF hw6 cc5 ff5
      obtain ⟨j, v5, hj, rfl, P, X, at5, K⟩ := hrel
      have hv5 : v5.ownBlock ≠ some xb := fun e => by
        rcases at5 with h | h
        · exact hvx (by rw [← h]; exact e)
        · have := h _ e; omega
      by_cases hlt : j < 8
      · obtain ⟨A7, c7, hv7, -, -, -⟩ := P.2.1.shape
        subst hv7
        have z0 := cell_of (v := .slice A7 (out ++ 255 :: le64 j hd).length c7) P.1 0 rfl
        obtain ⟨y4, y6, i4, i6⟩ := X.cells
        rw [HHD.out] at y4
        have hlen : (out ++ 255 :: le64 j hd).length ≤ 100000100 := by simp [le64_length]; omega
        have lb : b < wr.heap.size := lt_of P.1
        have lx : xb < wr.heap.size := lt_of X
        have hw0 : IntKind.i64.wrap (8 * (j : Int)) = 8 * (j : Int) := by rw [IntKind.wrap_i64]; omega
        have hw00 : 0 ≤ 8 * (j : Int) := by omega
        have hw01 : 8 * (j : Int) ≤ 64 := by omega
        have hJ : ((8 : Int) * j).toNat = 8 * j := by omega
        obtain ⟨y, hy⟩ : ∃ y, hd / 256 ^ j = y := ⟨_, rfl⟩
        have hy2 : hd / 2 ^ (8 * j) = y := by
          rw [← hy, Int.pow_mul]; rfl
        have hyw : IntKind.u8.wrap y = y % 256 := IntKind.wrap_u8 _
        have HY := Hid.of hy
        have HPo2 : Hid (Own wr 5 1 (.slice A7 (out ++ 255 :: le64 j hd).length c7) (out ++ 255 :: le64 j hd).length (u8s (out ++ 255 :: le64 j hd))) := Hid.of P.2.1
        have HP2 := Hid.of P
        have HXr := Hid.of X
        have HA := Hid.of at5
        have HKr := Hid.of K
        obtain ⟨o2, ho2⟩ : ∃ o2, out ++ 255 :: le64 j hd = o2 := ⟨_, rfl⟩
        have HO2 := Hid.of ho2
        rw [ho2] at z0 hlen HPo2 HP2
        clear P X at5 K ho2 hy hv5
        go_wp2
        go_region_law (refine step_appM slBytes wr.drew rfl _ _ rfl (.slice A7 o2.length c7) o2.length 1 (u8s o2) rfl HPo2.out [.int .u8 (y % 256)] rfl rfl (by simp [Value.oneCell']) (by unfold maxLen; omega) (by omega) ?_; intro v8 w8 o8 k8 at8; obtain ⟨A8, c8, rfl, cc8, ff8, P8, at9, K8⟩ := pen_app (m := 1) (news := [b8 y]) (w1 := wr.drew) HP2.out rfl (by rw [b8_cells]; exact o8) k8 at8; obtain ⟨w9, hw9⟩ : ∃ w9, w8.setCell ⟨b, 0, none⟩ (.slice A8 (o2.length + 1) c8) = w9 := ⟨_, rfl⟩; rw [hw9] at P8 K8; have HF := Hid.of (And.intro P8 (And.intro at9 K8)); clear o8 k8 at8 P8 K8 at9)
        all_goals
          go_wp2
          go_roundw
          case rel =>
            have hvx7 : (Value.slice A7 o2.length c7).ownBlock ≠ some xb := fun e => by
              rcases HA.out with h | h
              · exact hvx (by rw [← h, HO2.out]; exact e)
              · have := h xb (by rw [HO2.out]; exact e); omega
            refine ⟨j + 1, .slice A8 (o2.length + 1) c8, by omega, by go_num, ?_, HXr.out.keep (HF.out.2.2.of_drew) (fun e => by rcases e with e | e; { exact hne e.symm }; { exact hvx7 e }), ?_, HKr.out.trans' (HF.out.2.2.of_drew) (fun x hx hl => ?_)⟩
            · rw [le64_snoc, HY.out, ← List.cons_append, ← List.append_assoc, HO2.out]
              exact HF.out.1
            · rcases HF.out.2.1 with h | h
              · rcases HA.out with h2 | h2
                · exact .inl (by rw [h, ← h2, HO2.out])
                · exact .inr (fun g hg => h2 g (by rw [HO2.out, ← h]; exact hg))
              · exact .inr (fun g hg => Nat.le_trans HKr.out.size (h g hg))
            · rcases hx with h | h
              · exact .inl h
              · rcases HA.out with h2 | h2
                · exact .inr (by rw [← h2, HO2.out]; exact h)
                · have := h2 x (by rw [HO2.out]; exact h); omega
          case measure => simp [intOf]; omega
      · obtain rfl : j = 8 := by omega
        have Z := Hid.of (zero_two P X hne hv5)
        obtain ⟨d4, d6, i4, i6⟩ := X.cells
        have HA := Hid.of at5
        have HKr := Hid.of K
        clear P X at5 K hv5
        go_wp2
        first
          | (refine bodyPost_ret (results_none rfl _ _ _) rfl ?_)
          | go_end0
        refine ⟨rfl, _, Z.out.1, Z.out.2.1, ?_, ?_⟩
        · rcases HA.out with h | h
          · exact .inl h
          · exact .inr (fun g hg => Nat.le_trans HK1.out.size (h g hg))
        · exact ((HK1.out.mono (fun _ _ e => .inl e)).trans (HKr.out.mono (fun _ _ e => by rcases e with e | e; { exact .inl e }; { exact .inr (.inl e) }))).trans (Z.out.2.2.mono (fun _ _ e => .inr (.inr e)))
end Scr
end Go.Proofs.Ytmlolkjgniodpaa
