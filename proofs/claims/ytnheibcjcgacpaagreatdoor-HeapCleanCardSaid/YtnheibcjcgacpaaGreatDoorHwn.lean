/- What the laws of the heap share: made of what may not be, indices, windows, a new heap. -/
import Derived.Test.YtnheibcjcgacpaaGreatDoorHmd
import Derived.Test.YtnheibcjcgacpaaGreatDoorHop
import Derived.Test.YtnheibcjcgacpaaGreatDoorBlk
import Derived.Test.YtnheibcjcgacpaaGreatDoorHip
set_option linter.unusedVariables false
set_option linter.unusedSimpArgs false
namespace Go.Proofs.YtnheibcjcgacpaaGreatDoor
open Go.RowKit Go.ChangeMaps
namespace Hm
open He Hin
set_option maxRecDepth 100000 in
theorem made_bad (w : World) (P C : Int) (A0 A1 : Option Addr) (n0 c0 n1 c1 : Nat) (h : ¬ Co.Cfg P C) :
    Calls Tryz.prog 15 #[.agg #[.int .i64 P, .int .i64 C, .slice A0 n0 c0, .slice A1 n1 c1]] w fun e w' => e = .returned (.pointer none) ∧ Keeps (fun _ => False) w w' := by
  obtain ⟨w1, hw1⟩ : ∃ w1, w.alloc (.cells #[.int .i64 P, .int .i64 C, .slice A0 n0 c0, .slice A1 n1 c1] 26) = w1 := ⟨_, rfl⟩
  have k1 : Keeps (fun _ => False) w w1 := by rw [← hw1]; exact (Keeps.refl _ _).alloc _
  have b1 : w1.heap[w.heap.size]? = some (.cells #[.int .i64 P, .int .i64 C, .slice A0 n0 c0, .slice A1 n1 c1] 26 (0, 0)) := by rw [← hw1]; exact alloc_new _ _
  obtain ⟨w2, hw2⟩ : ∃ w2, w1.alloc (.cells #[.pointer none, .pointer none, .pointer none, .pointer none, .pointer none, .pointer none, .pointer none, .pointer none] 42) = w2 := ⟨_, rfl⟩
  have k2 : Keeps (fun _ => False) w1 w2 := by rw [← hw2]; exact (Keeps.refl _ _).alloc _
  have p2 : w2.heap[w1.heap.size]? = some (.cells #[.pointer none, .pointer none, .pointer none, .pointer none, .pointer none, .pointer none, .pointer none, .pointer none] 42 (0, 0)) := by rw [← hw2]; exact alloc_new _ _
  have hcp : w1.heap.size = w.heap.size + 1 := by rw [← hw1]; simp
  obtain ⟨cb, hcb⟩ : ∃ cb, w.heap.size = cb := ⟨_, rfl⟩
  obtain ⟨pb, hpb⟩ : ∃ pb, w1.heap.size = pb := ⟨_, rfl⟩
  rw [hcb] at b1
  rw [hpb] at p2
  have b2 := k2.at b1 (fun x => x)
  have x0 := cell_of (v := .int .i64 P) b2 0 rfl
  have x1 := cell_of (v := .int .i64 C) b2 1 rfl
  have q1 := Co.new_bad w2 P C h
  have HB := Hid.of (And.intro (k1.trans k2) (And.intro p2 (show w.heap.size ≤ pb by omega)))
  clear h k1 b1 k2 b2 p2 hcp
  go_enter Tryz.func15, Tryz.ntmps15
  go_wp2_with fail
  refine q1.mono ?_
  rintro e w3 ⟨rfl, k3⟩
  have p3 := k3.at HB.out.2.1 (fun x => x)
  have y3 := free_of p3 1
  have y3' := cell_of (v := .pointer none) p3 1 rfl
  obtain ⟨w4, hw4⟩ : ∃ w4, w3.setCell ⟨pb, 1, none⟩ (.pointer none) = w4 := ⟨_, rfl⟩
  have HF := Hid.of (show Keeps (fun _ => False) w w4 from by
    have k4 : Keeps (fun x => x = pb) w3 w4 := by rw [← hw4]; exact (Keeps.refl _ _).setCell _ _ (.inl rfl)
    exact (HB.out.1.trans k3).trans' k4 (fun x hx hl => by have := HB.out.2.2; omega))
  clear q1 k3 p3 hw1 hw2 hcb hpb
  go_wp2
  go_ret
  exact ⟨rfl, HF.out⟩
def nT (W0 : List Int) (P C : Nat) : T3 := ⟨nH W0, nS P, nM P C⟩
theorem idx_fit (n : Int) {nb : Nat} (h : 0 < nb) (h2 : nb ≤ 24 * 8192) : ∃ i : Nat, i < nb ∧ wrap64 ((IntKind.u64.wrap n).tmod (nb : Int)) = (i : Int) := by
  have h0 : 0 ≤ IntKind.u64.wrap n := by
    show 0 ≤ n % 18446744073709551616
    omega
  generalize IntKind.u64.wrap n = x at h0
  rw [Int.tmod_eq_emod_of_nonneg h0]
  have h3 := Int.emod_nonneg x (show (nb : Int) ≠ 0 by omega)
  have h4 := Int.emod_lt_of_pos x (show (0 : Int) < (nb : Int) by omega)
  generalize x % (nb : Int) = y at h3 h4
  refine ⟨y.toNat, by omega, ?_⟩
  unfold wrap64
  omega
theorem blocks_range (H : HS) : ∀ a ∈ blocksL H, 0 ≤ a ∧ a ≤ 10000000 := by
  intro a ha
  unfold blocksL bl1 at ha
  obtain ⟨c, hc, ha⟩ := List.mem_flatMap.1 ha
  have hc := List.mem_range.1 hc
  unfold bl2 at ha
  obtain ⟨s, hs, ha⟩ := List.mem_flatMap.1 ha
  have hs := List.mem_range.1 hs
  split at ha
  · cases ha
  · unfold bl3 at ha
    obtain ⟨k, hk, rfl⟩ := List.mem_map.1 ha
    have hk := List.mem_range.1 (List.mem_filter.1 hk).1
    have h1 := nb_le hc
    have h2 := Pc.slots_range hc
    have h3 := Pc.pgs_range hc
    have h4 := Pc.un_range hc
    have h5 : k * Pc.un c ≤ 32 * 8192 := Nat.mul_le_mul (by omega) h4.2
    have h6 : s * (Pc.pgs c * 512) ≤ 256 * 8192 := Nat.mul_le_mul (by omega) (by omega)
    unfold Pc.addr
    omega
theorem malloc_W {t : T3} {n : Int} (h : HI t) : (mallocT t n).1.H.W = t.H.W := by
  have m := mal_cases (n := n) h
  generalize mallocT t n = r at m ⊢
  cases m with
  | bad h1 => rfl
  | full c' h1 hc ho hl => rfl
  | great c' s xs h1 hc h8 ho hs hf hl hS k => exact k.D.2.2.2
  | new c' s xs h1 hc ho hL hs hf hl hS k hx =>
    exact ((mal1_S _ _ _ _).2.2.1).trans k.D.2.2.2
  | old c' s r P h1 hc hs hL hP hk hf => exact (mal1_S _ _ _ _).2.2.1
theorem free_W {t : T3} {a : Int} (h : HI t) : (freeT t a).1.H.W = t.H.W := by
  have hr : ∀ (t1 : T3) c s, (rel3 t1 c s).H.W = t1.H.W := fun t1 c s => (letN_D t1 (Pc.loc c s) (Pc.pgs c)).2.2.2
  have h0 : ∀ c (v : Int) P, (fr0 t c v P).H.W = t.H.W := fun c v P => by unfold fr0; split <;> rfl
  have m := fre_cases (a := a) h
  generalize freeT t a = r at m ⊢
  cases m with
  | none hb => rfl
  | great c s k hb hc h8 hs hk hf => exact hr _ _ _
  | small c s k P hb hc hs hf hP hK hk hh =>
    show (free3 t c s (Pc.loc c s) P k).H.W = _
    unfold free3
    split
    · rw [hr]; exact h0 _ _ _
    · exact h0 _ _ _
theorem hi_new {W0 : List Int} {P C : Nat} (h : Co.Cfg P C) : HI (nT W0 P C) := by
  unfold Co.Cfg at h
  obtain ⟨h1, h2, h3, h4, h5⟩ := h
  have h5' : P % C = 0 := by omega
  have hpc : P = P / C * C := by
    have := Nat.div_add_mod P C
    rw [h5', Nat.add_zero, Nat.mul_comm] at this
    exact this.symm
  have hg : ∀ c s, s < Pc.slots c → ((nT W0 P C).H.F c).getD s false = true := fun c s hs => Pgi.getD_rep _ _ hs
  have mi : MI (nM P C) := ⟨fun i _ => List.length_replicate .., ⟨by show 1 ≤ C; omega, by show C ≤ 32; omega⟩, ⟨by show 1 ≤ P; omega, by show P ≤ 4096; omega⟩, hpc⟩
  refine ⟨⟨?_, mi, fun v p hv => (by cases hv), List.length_replicate .., fun x hx _ => ?_⟩, fun c _ => List.length_replicate .., fun c s i hc hs _ => ?_, fun v hv => (by cases hv), fun v P hv => (by cases hv), fun c s hc hs hf => ?_, fun c hc => ⟨List.nodup_nil, fun v => ⟨fun hv => (by cases hv), fun hv => ?_⟩⟩⟩
  · exact Tab.Inv.nil
  · have hx : x < P := hx
    show ((List.replicate (P * 512) (0 : UInt8)).drop (x * 512)).take 512 = _
    rw [List.drop_replicate, List.take_replicate]
    congr 1
    omega
  · constructor
    · intro e; cases e
    · intro e; rw [hg c s hs] at e; cases e
  · rw [hg c s hs] at hf; cases hf
  · obtain ⟨P', e, -⟩ := hv; cases e
end Hm
end Go.Proofs.YtnheibcjcgacpaaGreatDoor
