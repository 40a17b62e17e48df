/- The pen at one step (what awake prints). -/
import Derived.Test.YtmlolkjgniodpaaScrK
set_option linter.unusedVariables false
set_option linter.unusedSimpArgs false
namespace Go.Proofs.Ytmlolkjgniodpaa
open Go.RowKit Go.ChangeMaps
attribute [-go_sem] run_index_string run_neq_struct run_eql_struct run_equalIn_agg
namespace Scr
def stp4 : Stp := ⟨4, 0, -1, 0, 0, [], 0⟩
set_option maxRecDepth 100000 in
set_option maxHeartbeats 4000000 in
theorem pstep4 (w : World) (b : Nat) (v : Value) (hp : PAt w b v [] false) :
    Calls Try.prog 65 #[.pointer (some ⟨b, 0, none⟩), .agg #[.int .i64 4, .int .i64 0, .int .i64 (-1), .int .i64 0, .int .u64 0, .string (bs []), .int .i64 0]] w fun e w' => e = .returned (.tuple #[]) ∧
      ∃ v', PAt w' b v' [4, 0, 255, 255] false ∧ (v'.ownBlock = v.ownBlock ∨ ∀ g, v'.ownBlock = some g → w.heap.size ≤ g) ∧ Keeps (fun x => x = b ∨ v.ownBlock = some x) w w' := by
  obtain ⟨A, cap, hv, -, -, -⟩ := hp.2.1.shape
  have hbl := lt_of hp.1
  have hvl : ∀ g, v.ownBlock = some g → g < w.heap.size := fun g hg => hp.2.1.lt hg
  obtain ⟨w1, hw1⟩ : ∃ w1, w.alloc (.cells #[.int .i64 4, .int .i64 0, .int .i64 (-1), .int .i64 0, .int .u64 0, .string (bs []), .int .i64 0] 108) = w1 := ⟨_, rfl⟩
  have x1 : XAt w1 w.heap.size stp4 := by rw [← hw1]; exact alloc_new _ _
  have ka : Keeps (fun _ => False) w w1 := by rw [← hw1]; exact (Keeps.refl _ _).alloc _
  have p1 := hp.keep ka (fun x => x) (fun _ _ x => x)
  have hs1 : w.heap.size < w1.heap.size := lt_of x1
  obtain ⟨xb, hxe⟩ : ∃ xb, w.heap.size = xb := ⟨_, rfl⟩
  rw [hxe] at x1 hbl hvl hs1
  -- bad is written again
  have k2 := kset w1 b 1 (.bool false)
  have p2 : PAt (w1.setCell ⟨b, 1, none⟩ (.bool false)) b v [] false := ⟨set_of p1.1 1 _, p1.2.1.setCell _ _ (by exact p1.2.2), p1.2.2⟩
  have c1 := cell_of (v := .bool false) p1.1 1 rfl
  have f1 := free_of p1.1 1
  obtain ⟨w2, hw2⟩ : ∃ w2, w1.setCell ⟨b, 1, none⟩ (.bool false) = w2 := ⟨_, rfl⟩
  rw [hw2] at p2 k2
  have x2 := x1.keep k2 (by omega)
  obtain ⟨a0, a1, a2, a3, a4, a5, a6⟩ := x1.all
  obtain ⟨b0, b1, b2, b3, b4, b5, b6⟩ := x2.all
  subst hv
  have c02 := cell_of (v := .slice A ([] : Bs).length cap) p2.1 0 rfl
  have lb2 : b < w2.heap.size := lt_of p2.1
  have lx2 : xb < w2.heap.size := lt_of x2
  have wr4 : IntKind.u8.wrap 4 = 4 := rfl
  have wr0 : IntKind.u8.wrap 0 = 0 := rfl
  have HP2 := Hid.of p2
  have HPo : Hid (Own w2 5 1 (.slice A ([] : Bs).length cap) 0 []) := Hid.of p2.2.1
  have K2 : Keeps (fun x => x = b) w w2 := (ka.mono (fun _ _ e => e.elim)).trans k2
  have HK2 := Hid.of K2
  have HX2 := Hid.of x2
  have HX := Hid.of (And.intro hxe (And.intro hbl hvl))
  simp only [stp4] at a0 a1 a2 a3 a4 a5 a6 b0 b1 b2 b3 b4 b5 b6
  clear hp p1 p2 x1 x2 ka k2 K2 hvl
  go_enter Try.func65, Try.ntmps65
  try rw [hxe]
  go_wp2
  go_cut [53] (fun s wx => ∃ v4, PAt wx b v4 [4, 0] false ∧ (v4.ownBlock = (Value.slice A ([] : Bs).length cap).ownBlock ∨ ∀ g, v4.ownBlock = some g → w2.heap.size ≤ g) ∧ Keeps (fun x => x = b ∨ (Value.slice A ([] : Bs).length cap).ownBlock = some x) w2 wx)
  case first =>
    go_region_law (refine step_appM slBytes w2.drew rfl _ _ rfl (.slice A ([] : Bs).length cap) 0 2 [] rfl HPo.out [.int .u8 4, .int .u8 0] rfl rfl (by simp [Value.oneCell']) (by unfold maxLen; omega) (by omega) ?_; intro v5 w5 o5 k5 at5; obtain ⟨A5, c5, rfl, cc5, ff5, P5, at6, K5⟩ := pen_app (m := 2) (news := [4, 0]) (out := []) (w1 := w2.drew) HP2.out rfl (by exact o5) k5 at5; have HF := Hid.of (And.intro P5 (And.intro at6 K5)); clear o5 k5 at5 P5 K5 at6)
    all_goals
      go_wp2_with fail
      go_meet
      exact ⟨_, HF.out.1, HF.out.2.1, HF.out.2.2.of_drew⟩
  case rest =>
    obtain ⟨v4, P4, at4, K4⟩ := hcut
    obtain ⟨hxe', hbl', hvl'⟩ := HX.out
    have hx0 : (Value.slice A ([] : Bs).length cap).ownBlock ≠ some xb := fun e => by have := hvl' _ e; omega
    have x4 := HX2.out.keep K4 (fun e => by rcases e with e | e; { omega }; { exact hx0 e })
    have hv4 : v4.ownBlock ≠ some xb := fun e => by
      rcases at4 with h | h
      · exact hx0 (by rw [← h]; exact e)
      · have := h _ e; omega
    have hs4 := K4.size
    clear a0 a1 a2 a3 a4 a5 a6 b0 b1 b2 b3 b4 b5 b6 c1 f1 hw1 hw2 c02 wr4 wr0 hxe' hbl' hvl'
    obtain ⟨e0, e1, e2, e3, e4, e5, e6⟩ := x4.all
    simp only [stp4] at e0 e1 e2 e3 e4 e5 e6
    go_wp2_with fail
    refine (pnum_any wc b xb 2 v4 [4, 0] false (-1) _ _ P4 x4 rfl (by omega) hv4 (by simp) (by omega) (by omega)).mono ?_
    rintro e w5 ⟨rfl, v5, P5, hx5, at5, K5⟩
    have x5 : XAt w5 xb ⟨4, 0, 0, 0, 0, [], 0⟩ := hx5
    have hin : (false || !in16 (-1)) = false := by decide
    rw [hin] at P5
    have hv5 : v5.ownBlock ≠ some xb := fun e => by
      rcases at5 with h | h
      · exact hv4 (by rw [← h]; exact e)
      · have := h _ e; omega
    clear e0 e1 e2 e3 e4 e5 e6
    obtain ⟨g0, g1, g2, g3, g4, g5, g6⟩ := x5.free
    obtain ⟨a0, a1, a2, a3, a4, a5, a6⟩ := x5.all
    simp only [] at a0 a1 a2 a3 a4 a5 a6
    have x6 := (x5.set_kind 0).set_tenant 0
    have k6 := (kset w5 xb 0 (.int .i64 0)).trans (kset _ xb 1 (.int .i64 0))
    obtain ⟨w6, hw6⟩ : ∃ w6, (w5.setCell ⟨xb, 0, none⟩ (.int .i64 0)).setCell ⟨xb, 1, none⟩ (.int .i64 0) = w6 := ⟨_, rfl⟩
    rw [hw6] at x6 k6
    have P6 := P5.keep k6 (by omega) (fun g hg e => hv5 (by rw [hg, e]))
    obtain ⟨b0, b1, b2, b3, b4, b5, b6⟩ := x6.all
    simp only [] at b0 b1 b2 b3 b4 b5 b6
    have d1 := cell_of (v := .bool false) P6.1 1 rfl
    have h1 := free_of P6.1 1
    have nq : ∀ w, (binOp .neq 108 (.agg #[.int .i64 0, .int .i64 0, .int .i64 0, .int .i64 0, .int .u64 0, .string (bs []), .int .i64 0]) (.agg #[.int .i64 0, .int .i64 0, .int .i64 0, .int .i64 0, .int .u64 0, .string ⟨#[]⟩, .int .i64 0])).run Try.prog w = .ok (.bool false) w := fun w => neq_stp w 0 0 0 0 0 0 0 0 0 0 0 0 [] []
    have k7 := kset w6 b 1 (.bool false)
    have P7 : PAt (w6.setCell ⟨b, 1, none⟩ (.bool false)) b v5 ([4, 0] ++ le16 (-1)) false := ⟨set_of P6.1 1 _, P6.2.1.setCell _ _ (by exact P6.2.2), P6.2.2⟩
    have e255 : [4, 0] ++ le16 (-1) = [4, 0, 255, 255] := by decide
    rw [e255] at P7
    obtain ⟨w7, hw7⟩ : ∃ w7, w6.setCell ⟨b, 1, none⟩ (.bool false) = w7 := ⟨_, rfl⟩
    rw [hw7] at P7 k7
    have K7 : Keeps (fun x => x = b ∨ (Value.slice A ([] : Bs).length cap).ownBlock = some x) w w7 := by
      refine ((((HK2.out.mono (fun _ _ e => .inl e)).trans K4).trans' K5 (fun x hx hl => ?_)).trans' k6 (fun x hx hl => ?_)).trans' k7 (fun x hx hl => .inl hx)
      · rcases hx with h | h | h
        · exact .inl h
        · rcases at4 with h4 | h4
          · exact .inr (by rw [← h4]; exact h)
          · have := h4 _ h; have := HK2.out.size; omega
        · omega
      · omega
    have A7 : v5.ownBlock = (Value.slice A ([] : Bs).length cap).ownBlock ∨ ∀ g, v5.ownBlock = some g → w.heap.size ≤ g := by
      rcases at5 with h | h
      · rcases at4 with h4 | h4
        · exact .inl (h.trans h4)
        · exact .inr (fun g hg => by have := h4 g (by rw [← h]; exact hg); have := HK2.out.size; omega)
      · exact .inr (fun g hg => by have := h g hg; have := HK2.out.size; omega)
    have HF := Hid.of (And.intro P7 (And.intro A7 K7))
    clear P4 x4 P5 hx5 x5 K5 K4 at4 at5 x6 k6 P6 k7 P7 K7 A7 hv4 hv5 hx0 e255
    go_wp2
    go_end0
    refine ⟨rfl, v5, HF.out.1, ?_, HF.out.2.2⟩
    have hA := HF.out.2.1
    rw [HX.out.1] at hA
    exact hA
end Scr
end Go.Proofs.Ytmlolkjgniodpaa
