/- The script package's pen: handle. -/
import Derived.Test.YtmlolkjgniodpaaScrK
set_option linter.unusedVariables false
set_option linter.unusedSimpArgs false
namespace Go.Proofs.Ytmlolkjgniodpaa
open Go.RowKit Go.ChangeMaps
attribute [-go_sem] run_index_string run_neq_struct run_eql_struct run_equalIn_agg
namespace Scr
def okH (s : Stp) : Bool := decide (0 ≤ s.back ∧ s.back < 255 ∧ (s.back = 0 ∨ s.handle = 0))
theorem le64_snoc (j : Nat) (h : Int) : le64 (j + 1) h = le64 j h ++ [b8 (h / 256 ^ j)] := by
  induction j generalizing h with
  | zero => simp [le64]
  | succ j ih =>
    rw [le64, ih, le64, List.cons_append]
    congr 3
    rw [Int.ediv_ediv_of_nonneg (by omega), Int.pow_succ, Int.mul_comm]
theorem b8_cells (k : Int) : u8s [b8 k] = [.int .u8 (k % 256)] := by
  unfold u8s
  simp only [List.map_cons, List.map_nil, b8_toNat]
theorem hbad_cases (bad : Bool) (k h : Int) : bad = true ∨ (bad = false ∧ k < 0) ∨ (bad = false ∧ 0 ≤ k ∧ 255 ≤ k) ∨ (bad = false ∧ 0 < k ∧ k < 255 ∧ h ≠ 0) ∨ (bad = false ∧ 0 < k ∧ k < 255 ∧ h = 0) ∨ (bad = false ∧ k = 0) := by
  cases bad <;> simp <;> omega
/-- The last two stores. -/
theorem zero_two {w : World} {b xb : Nat} {v : Value} {out : Bs} {nb : Bool} {s : Stp} (P : PAt w b v out nb) (hx : XAt w xb s) (hne : b ≠ xb) (hvx : v.ownBlock ≠ some xb) :
    PAt ((w.setCell ⟨xb, 6, none⟩ (.int .i64 0)).setCell ⟨xb, 4, none⟩ (.int .u64 0)) b v out nb ∧ XAt ((w.setCell ⟨xb, 6, none⟩ (.int .i64 0)).setCell ⟨xb, 4, none⟩ (.int .u64 0)) xb { s with back := 0, handle := 0 } ∧
      Keeps (fun x => x = xb) w ((w.setCell ⟨xb, 6, none⟩ (.int .i64 0)).setCell ⟨xb, 4, none⟩ (.int .u64 0)) := by
  have k := (kset w xb 6 (.int .i64 0)).trans (kset _ xb 4 (.int .u64 0))
  exact ⟨P.keep k hne (fun g hg e => hvx (by rw [hg, e])), (hx.set_back 0).set_handle 0, k⟩
set_option maxRecDepth 100000 in
set_option maxHeartbeats 4000000 in
theorem phand0 (w : World) (b xb : Nat) (v : Value) (out : Bs) (bad : Bool) (s : Stp) (hp : PAt w b v out bad) (hx : XAt w xb s) (hne : b ≠ xb) (hvx : v.ownBlock ≠ some xb) (hl : out.length ≤ 100000000) (hz : s.handle = 0) :
    Calls Try.prog 77 #[.pointer (some ⟨b, 0, none⟩), .pointer (some ⟨xb, 0, none⟩)] w fun e w' => e = .returned (.tuple #[]) ∧
      ∃ v', PAt w' b v' (out ++ [b8 s.back]) (bad || !okH s) ∧ XAt w' xb { s with back := 0, handle := 0 } ∧ (v'.ownBlock = v.ownBlock ∨ ∀ g, v'.ownBlock = some g → w.heap.size ≤ g) ∧ Keeps (fun x => x = b ∨ v.ownBlock = some x ∨ x = xb) w w' := by
  obtain ⟨hb, ho, hvb⟩ := hp
  have c0 := cell_of hb 0 rfl
  have c1 := cell_of (v := .bool bad) hb 1 rfl
  have f1 := free_of hb 1
  obtain ⟨a4, a6, g4, g6⟩ := hx.cells
  rw [hz] at a4
  obtain ⟨A, cap, hv, -, -, -⟩ := ho.shape
  subst hv
  obtain ⟨nb, hnb⟩ : ∃ nb, (bad || !okH s) = nb := ⟨_, rfl⟩
  have HNB : Hid ((bad || !okH s) = nb) := Hid.of hnb
  rw [hnb]
  clear hnb
  obtain ⟨w1, hw1⟩ : ∃ w1, w.setCell ⟨b, 1, none⟩ (.bool nb) = w1 := ⟨_, rfl⟩
  have k1 := kset w b 1 (.bool nb)
  have p1 : PAt (w.setCell ⟨b, 1, none⟩ (.bool nb)) b (.slice A out.length cap) out nb := ⟨set_of hb 1 _, ho.setCell _ _ (by exact hvb), hvb⟩
  rw [hw1] at k1 p1
  have x1 := hx.keep k1 (fun e => hne e.symm)
  obtain ⟨b4, b6, h4, h6⟩ := x1.cells
  rw [hz] at b4
  have c01 := cell_of (v := .slice A out.length cap) p1.1 0 rfl
  have l1 : b < w1.heap.size := lt_of p1.1
  have lx1 : xb < w1.heap.size := lt_of x1
  have HP1 := Hid.of p1
  have HPo : Hid (Own w1 5 1 (.slice A out.length cap) out.length (u8s out)) := Hid.of p1.2.1
  have HX1 := Hid.of x1
  have HK1 := Hid.of k1
  have HW1 := Hid.of hw1
  have HBD := Hid.of (hbad_cases bad s.back s.handle)
  have e8 : IntKind.u8.wrap s.back = s.back % 256 := IntKind.wrap_u8 _
  have hz0 : ((0 : Int) == 0) = true := rfl
  have HZ := Hid.of hz
  obtain ⟨bk, hbk⟩ : ∃ bk, s.back = bk := ⟨_, rfl⟩
  have HBK := Hid.of hbk
  rw [hbk] at a6 b6 e8 HBD
  rw [hbk]
  clear hb ho hx p1 x1 k1 hz hw1 hbk
  go_enter Try.func77, Try.ntmps77
  go_upto_region 0 with fail
  go_cut [5] (fun s wx => wx = w1)
  case first =>
    have HO : Hid (nb = (bad || !decide (0 ≤ bk ∧ bk < 255 ∧ (bk = 0 ∨ (0 : Int) = 0)))) := Hid.of (by rw [← HNB.out]; unfold okH; rw [HBK.out, HZ.out])
    rcases HBD.out with rfl | ⟨rfl, h1⟩ | ⟨rfl, h0, h1⟩ | ⟨rfl, h0, h1, h2⟩ | ⟨rfl, h0, h1, h2⟩ | ⟨rfl, h1⟩
    · obtain rfl : nb = true := by rw [HO.out]; rfl
      have hw1 := HW1.out
      go_wp2_with fail
      go_meet
      first | rfl | exact ⟨rfl, rfl⟩
    · obtain rfl : nb = true := by rw [HO.out]; simp; omega
      have hd1 : decide (bk < 0) = true := by simp; omega
      have hw1 := HW1.out
      go_wp2_with fail
      go_meet
      first | rfl | exact ⟨rfl, rfl⟩
    · obtain rfl : nb = true := by rw [HO.out]; simp; omega
      have hd1 : decide (bk < 0) = false := by simp; omega
      have hd2 : decide (255 ≤ bk) = true := by simp; omega
      have hw1 := HW1.out
      go_wp2_with fail
      go_meet
      first | rfl | exact ⟨rfl, rfl⟩
    · exact absurd HZ.out h2
    · obtain rfl : nb = false := by rw [HO.out]; simp; omega
      have hd1 : decide (bk < 0) = false := by simp; omega
      have hd2 : decide (255 ≤ bk) = false := by simp; omega
      have hd3 : decide (0 < bk) = true := by simp; omega
      have hw1 := HW1.out
      go_wp2_with fail
      go_meet
      first | rfl | exact ⟨rfl, rfl⟩
    · subst h1
      obtain rfl : nb = false := by rw [HO.out]; rfl
      have hw1 := HW1.out
      go_wp2_with fail
      go_meet
      first | rfl | exact ⟨rfl, rfl⟩
  case rest =>
    first | rw [hcut] | rw [hcut.2]
    clear hcut
    go_wp2
    go_region_law (refine step_appM slBytes w1.drew rfl _ _ rfl (.slice A out.length cap) out.length 1 (u8s out) rfl HPo.out [.int .u8 (bk % 256)] rfl rfl (by simp [Value.oneCell']) (by unfold maxLen; omega) (by omega) ?_; intro v5 w5 o5 k5 at5; obtain ⟨A5, c5, rfl, cc5, ff5, P5, at6, K5⟩ := pen_app (m := 1) (news := [b8 bk]) (w1 := w1.drew) HP1.out rfl (by rw [b8_cells]; exact o5) k5 at5; obtain ⟨w6, hw6⟩ : ∃ w6, w5.setCell ⟨b, 0, none⟩ (.slice A5 (out.length + 1) c5) = w6 := ⟨_, rfl⟩; rw [hw6] at P5 K5; have x6 := XAt.keep (w := w1.drew) HX1.out K5 (fun e => by rcases e with e | e; { exact hne e.symm }; { exact hvx e }); obtain ⟨d4, d6, i4, i6⟩ := x6.cells; have HF := Hid.of (And.intro P5 (And.intro x6 (And.intro at6 K5))); clear o5 k5 at5 P5 K5 at6 x6)
    all_goals
      have hv6 : (Value.slice A5 (out.length + 1) c5).ownBlock ≠ some xb := fun e => by
        rcases HF.out.2.2.1 with h | h
        · exact hvx (by rw [← h]; exact e)
        · have := h _ e
          have hh : w1.drew.heap.size = w1.heap.size := rfl
          omega
      have Z := Hid.of (zero_two HF.out.1 HF.out.2.1 hne hv6)
      clear hv6
      go_wp2
      first
        | (refine bodyPost_ret (results_none rfl _ _ _) rfl ?_)
        | go_end0
      refine ⟨rfl, _, Z.out.1, Z.out.2.1, ?_, ?_⟩
      · rcases HF.out.2.2.1 with h | h
        · exact .inl h
        · exact .inr (fun g hg => Nat.le_trans HK1.out.size (h g hg))
      · exact ((HK1.out.mono (fun _ _ e => .inl e)).trans ((HF.out.2.2.2.of_drew).mono (fun _ _ e => by rcases e with e | e; { exact .inl e }; { exact .inr (.inl e) }))).trans (Z.out.2.2.mono (fun _ _ e => .inr (.inr e)))
end Scr
end Go.Proofs.Ytmlolkjgniodpaa
