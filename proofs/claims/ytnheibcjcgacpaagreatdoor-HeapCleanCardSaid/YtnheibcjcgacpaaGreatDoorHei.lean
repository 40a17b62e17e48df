/- The heap package's walk: empty. | The heap package's walks: New, Pages, Table, Window. -/
import Derived.Test.YtnheibcjcgacpaaGreatDoorHee
set_option linter.unusedVariables false
set_option linter.unusedSimpArgs false
/-! The heap package's walk: empty. -/
namespace Go.Proofs.YtnheibcjcgacpaaGreatDoor
open Go.RowKit Go.ChangeMaps
namespace He
/-- A heap that is being made empty: k shelves, j lines are new. -/
structure EI (w : World) (hb : Nat) (a m u t : Value) (q l : Nat → Value) (D k j : Nat) (sb : Nat → Nat) (sv : Nat → Value) (lb lm : Nat → Nat) (wr : World) : Prop where
  cells : wr.heap[hb]? = some (.cells (hc a m u t (fun c => if c < k then ptr (sb c) else q c) (fun c => if c < j then ptr (lb c) else l c) (.map (some D))) 155 (0, 0))
  map : EMap (fun v : Value => v) wr D []
  mf : w.heap.size ≤ D
  hf : hb < w.heap.size
  sh : ∀ c, c < k → Sh.At wr (sb c) (sv c) (List.replicate (Pc.slots c) true)
  shf : ∀ c, c < k → ∀ x, Sh.Fp (sb c) (sv c) x → w.heap.size ≤ x ∧ x ≠ D
  sha : ∀ c c', c < k → c' < k → c ≠ c' → ∀ x, Sh.Fp (sb c) (sv c) x → ¬ Sh.Fp (sb c') (sv c') x
  ln : ∀ c, c < j → Line.Rep wr (lb c) (lm c) []
  lnf : ∀ c, c < j → ∀ x, (x = lb c ∨ x = lm c) → w.heap.size ≤ x ∧ x ≠ D
  lna : ∀ c c', c < j → c' < j → c ≠ c' → ∀ x, (x = lb c ∨ x = lm c) → ¬ (x = lb c' ∨ x = lm c')
  lsa : ∀ c c', c < k → c' < j → ∀ x, Sh.Fp (sb c) (sv c) x → ¬ (x = lb c' ∨ x = lm c')
  keeps : Keeps (fun x => x = hb) w wr
theorem EI.old {w : World} {hb : Nat} {a m u t : Value} {q l : Nat → Value} {D k j : Nat} {sb : Nat → Nat} {sv : Nat → Value} {lb lm : Nat → Nat} {wr w1 : World} (h : EI w hb a m u t q l D k j sb sv lb lm wr) (kk : Keeps (fun _ => False) wr w1) : EI w hb a m u t q l D k j sb sv lb lm w1 :=
  { h with cells := kk.at h.cells (fun x => x), map := h.map.keep kk (fun x => x), sh := fun c hc => (h.sh c hc).old kk, ln := fun c hc => (h.ln c hc).keep kk (fun x => x) (fun x => x), keeps := h.keeps.trans (kk.mono (fun _ _ x => x.elim)) }
/-- The heap's own cell is set. -/
theorem EI.rest {w : World} {hb : Nat} {a m u t : Value} {q l : Nat → Value} {D k j : Nat} {sb : Nat → Nat} {sv : Nat → Value} {lb lm : Nat → Nat} {wr w1 : World} (h : EI w hb a m u t q l D k j sb sv lb lm wr) (kk : Keeps (fun x => x = hb) wr w1) : EMap (fun v : Value => v) w1 D [] ∧ (∀ c, c < k → Sh.At w1 (sb c) (sv c) (List.replicate (Pc.slots c) true)) ∧ (∀ c, c < j → Line.Rep w1 (lb c) (lm c) []) ∧ Keeps (fun x => x = hb) w w1 := by
  have hlt := h.hf
  refine ⟨h.map.keep kk (fun e => ?_), fun c hc => (h.sh c hc).keep kk (fun x hx e => ?_), fun c hc => (h.ln c hc).keep kk (fun e => ?_) (fun e => ?_), h.keeps.trans kk⟩
  · have := h.mf; omega
  · have := (h.shf c hc x hx).1; omega
  · have := (h.lnf c hc _ (.inl rfl)).1; omega
  · have := (h.lnf c hc _ (.inr rfl)).1; omega
theorem EI.addSlot {w : World} {hb : Nat} {a m u t : Value} {q l : Nat → Value} {D k : Nat} {sb : Nat → Nat} {sv : Nat → Value} {lb lm : Nat → Nat} {wr w1 w2 : World} {b : Nat} {v : Value} (h : EI w hb a m u t q l D k 0 sb sv lb lm wr) (hk : k < 24) (s1 : Sh.At w1 b v (List.replicate (Pc.slots k) true)) (f1 : ∀ x, Sh.Fp b v x → wr.heap.size ≤ x) (k1 : Keeps (fun _ => False) wr w1) (h2 : w1.setCell ⟨hb, 4 + k, none⟩ (.pointer (some ⟨b, 0, none⟩)) = w2) :
    EI w hb a m u t q l D (k + 1) 0 (upl sb k b) (upl sv k v) lb lm w2 := by
  have h1 := h.old k1
  have kk : Keeps (fun x => x = hb) w1 w2 := by rw [← h2]; exact (Keeps.refl _ _).setCell _ _ (.inl rfl)
  obtain ⟨r1, r2, r3, r4⟩ := h1.rest kk
  have hs := h.keeps.size
  have hlt := h.hf
  have old : ∀ c, c < k → ∀ x, Sh.Fp (sb c) (sv c) x → x < wr.heap.size := fun c hc x hx => (h.sh c hc).lt hx
  have hD := h.map.lt
  refine { cells := ?_, map := r1, mf := h.mf, hf := h.hf, sh := fun c hc => ?_, shf := fun c hc x hx => ?_, sha := fun c c' hc hc' hne x hx hy => ?_, ln := r3, lnf := h.lnf, lna := h.lna, lsa := fun c c' _ hc' => by omega, keeps := r4 }
  · have y2 := set_of h1.cells (4 + k) (.pointer (some ⟨b, 0, none⟩))
    rw [h2] at y2
    rw [y2, hc_setSlot _ _ _ _ _ _ _ _ hk]
    congr 2
    refine hc_congr (fun c hc => ?_) (fun c hc => rfl)
    unfold upv upl
    by_cases e : c = k
    · simp [e, ptr]
    · by_cases e2 : c < k
      · simp [e, e2, show c < k + 1 by omega]
      · simp [e, e2, show ¬ c < k + 1 by omega]
  · by_cases e : c = k
    · subst e; rw [upl_same, upl_same]; exact s1.keep kk (fun x hx e => by have := f1 x hx; omega)
    · rw [upl_other _ _ e, upl_other _ _ e]; exact r2 c (by omega)
  · by_cases e : c = k
    · subst e; rw [upl_same, upl_same] at hx; have := f1 x hx; exact ⟨by omega, by omega⟩
    · rw [upl_other _ _ e, upl_other _ _ e] at hx; exact h.shf c (by omega) x hx
  · by_cases e : c = k
    · subst e
      rw [upl_same, upl_same] at hx
      rw [upl_other _ _ (fun q => hne q.symm), upl_other _ _ (fun q => hne q.symm)] at hy
      have := f1 x hx; have := old c' (by omega) x hy; omega
    · rw [upl_other _ _ e, upl_other _ _ e] at hx
      by_cases e2 : c' = k
      · subst e2
        rw [upl_same, upl_same] at hy
        have := f1 x hy; have := old c (by omega) x hx; omega
      · rw [upl_other _ _ e2, upl_other _ _ e2] at hy
        exact h.sha c c' (by omega) (by omega) hne x hx hy
theorem EI.addLine {w : World} {hb : Nat} {a m u t : Value} {q l : Nat → Value} {D k j : Nat} {sb : Nat → Nat} {sv : Nat → Value} {lb lm : Nat → Nat} {wr w1 w2 : World} {b n : Nat} (h : EI w hb a m u t q l D k j sb sv lb lm wr) (hj : j < 8) (s1 : Line.Rep w1 b n []) (f1 : ∀ x, (x = b ∨ x = n) → wr.heap.size ≤ x) (k1 : Keeps (fun _ => False) wr w1) (h2 : w1.setCell ⟨hb, 28 + j, none⟩ (.pointer (some ⟨b, 0, none⟩)) = w2) :
    EI w hb a m u t q l D k (j + 1) sb sv (upl lb j b) (upl lm j n) w2 := by
  have h1 := h.old k1
  have kk : Keeps (fun x => x = hb) w1 w2 := by rw [← h2]; exact (Keeps.refl _ _).setCell _ _ (.inl rfl)
  obtain ⟨r1, r2, r3, r4⟩ := h1.rest kk
  have hs := h.keeps.size
  have hlt := h.hf
  have old : ∀ c, c < j → ∀ x, (x = lb c ∨ x = lm c) → x < wr.heap.size := fun c hc x hx => by
    obtain ⟨l1, l2⟩ := (h.ln c hc).lt
    rcases hx with hx | hx
    · omega
    · omega
  have olds : ∀ c, c < k → ∀ x, Sh.Fp (sb c) (sv c) x → x < wr.heap.size := fun c hc x hx => (h.sh c hc).lt hx
  have hD := h.map.lt
  refine { cells := ?_, map := r1, mf := h.mf, hf := h.hf, sh := r2, shf := h.shf, sha := h.sha, ln := fun c hc => ?_, lnf := fun c hc x hx => ?_, lna := fun c c' hc hc' hne x hx hy => ?_, lsa := fun c c' hc hc' x hx hy => ?_, keeps := r4 }
  · have y2 := set_of h1.cells (28 + j) (.pointer (some ⟨b, 0, none⟩))
    rw [h2] at y2
    rw [y2, hc_setLine _ _ _ _ _ _ _ _ hj]
    congr 2
    refine hc_congr (fun c hc => rfl) (fun c hc => ?_)
    unfold upv upl
    by_cases e : c = j
    · simp [e, ptr]
    · by_cases e2 : c < j
      · simp [e, e2, show c < j + 1 by omega]
      · simp [e, e2, show ¬ c < j + 1 by omega]
  · by_cases e : c = j
    · subst e; rw [upl_same, upl_same]; exact s1.keep kk (fun e => by have := f1 b (.inl rfl); omega) (fun e => by have := f1 n (.inr rfl); omega)
    · rw [upl_other _ _ e, upl_other _ _ e]; exact r3 c (by omega)
  · by_cases e : c = j
    · subst e; rw [upl_same, upl_same] at hx; have := f1 x hx; exact ⟨by omega, by omega⟩
    · rw [upl_other _ _ e, upl_other _ _ e] at hx; exact h.lnf c (by omega) x hx
  · by_cases e : c = j
    · subst e
      rw [upl_same, upl_same] at hx
      rw [upl_other _ _ (fun q => hne q.symm), upl_other _ _ (fun q => hne q.symm)] at hy
      have := f1 x hx; have := old c' (by omega) x hy; omega
    · rw [upl_other _ _ e, upl_other _ _ e] at hx
      by_cases e2 : c' = j
      · subst e2
        rw [upl_same, upl_same] at hy
        have := f1 x hy; have := old c (by omega) x hx; omega
      · rw [upl_other _ _ e2, upl_other _ _ e2] at hy
        exact h.lna c c' (by omega) (by omega) hne x hx hy
  · by_cases e2 : c' = j
    · subst e2
      rw [upl_same, upl_same] at hy
      have := f1 x hy; have := olds c hc x hx; omega
    · rw [upl_other _ _ e2, upl_other _ _ e2] at hy
      exact h.lsa c c' hc (by omega) x hx hy
theorem EI.sc {w : World} {hb : Nat} {a m u t : Value} {q l : Nat → Value} {D k j : Nat} {sb : Nat → Nat} {sv : Nat → Value} {lb lm : Nat → Nat} {wr : World} (h : EI w hb a m u t q l D k j sb sv lb lm wr) (hk : k < 24) : wr.cell? ⟨hb, 4 + k, none⟩ = some (q k) :=
  cell_of h.cells _ (by rw [hc_slot _ _ _ _ _ _ _ hk]; simp)
theorem EI.lc {w : World} {hb : Nat} {a m u t : Value} {q l : Nat → Value} {D k j : Nat} {sb : Nat → Nat} {sv : Nat → Value} {lb lm : Nat → Nat} {wr : World} (h : EI w hb a m u t q l D k j sb sv lb lm wr) (hk : j < 8) : wr.cell? ⟨hb, 28 + j, none⟩ = some (l j) :=
  cell_of h.cells _ (by rw [hc_line _ _ _ _ _ _ _ hk]; simp)
theorem EI.sc1 {w : World} {hb : Nat} {a m u t : Value} {q l : Nat → Value} {D k j : Nat} {sb : Nat → Nat} {sv : Nat → Value} {lb lm : Nat → Nat} {wr : World} (h : EI w hb a m u t q l D (k + 1) j sb sv lb lm wr) (hk : k < 24) : wr.cell? ⟨hb, 4 + k, none⟩ = some (ptr (sb k)) :=
  cell_of h.cells _ (by rw [hc_slot _ _ _ _ _ _ _ hk]; simp)
theorem EI.lc1 {w : World} {hb : Nat} {a m u t : Value} {q l : Nat → Value} {D k j : Nat} {sb : Nat → Nat} {sv : Nat → Value} {lb lm : Nat → Nat} {wr : World} (h : EI w hb a m u t q l D k (j + 1) sb sv lb lm wr) (hk : j < 8) : wr.cell? ⟨hb, 28 + j, none⟩ = some (ptr (lb j)) :=
  cell_of h.cells _ (by rw [hc_line _ _ _ _ _ _ _ hk]; simp)
def EmptyR (w : World) (hb : Nat) (a m u t : Value) (q l : Nat → Value) (e : Ending) (w' : World) : Prop := e = .returned (.tuple #[]) ∧ ∃ D sb sv lb lm, EI w hb a m u t q l D 24 8 sb sv lb lm w'
set_option maxRecDepth 100000 in
set_option maxHeartbeats 2000000 in
theorem empty_any (w : World) (hb : Nat) (a m u t : Value) (q l : Nat → Value) (s : Value) (hH : w.heap[hb]? = some (.cells (hc a m u t q l s) 155 (0, 0))) :
    Calls Tryz.prog 110 #[.pointer (some ⟨hb, 0, none⟩)] w (EmptyR w hb a m u t q l) := by
  have hmm := @run_makeMap Tryz.prog
  have hlt := lt_of hH
  have cA : (w.alloc (.map #[] 0)).heap[hb]? = some (.cells (hc a m u t q l s) 155 (0, 0)) := by
    have k : Keeps (fun _ => False) w (w.alloc (.map #[] 0)) := (Keeps.refl _ _).alloc _
    exact k.at hH (fun x => x)
  have yA := free_of cA 36
  have xA : (w.alloc (.map #[] 0)).cell? ⟨hb, 36, none⟩ = some s := cell_of cA 36 rfl
  obtain ⟨w1, hw1⟩ : ∃ w1, (w.alloc (.map #[] 0)).setCell ⟨hb, 36, none⟩ (.map (some w.heap.size)) = w1 := ⟨_, rfl⟩
  have E0 := Hid.of (show EI w hb a m u t q l w.heap.size 0 0 (fun _ => 0) (fun _ => undef) (fun _ => 0) (fun _ => 0) w1 from by
    have y2 := set_of cA 36 (.map (some w.heap.size))
    rw [hw1] at y2
    have kA : Keeps (fun x => x = hb) (w.alloc (.map #[] 0)) w1 := by rw [← hw1]; exact (Keeps.refl _ _).setCell _ _ (.inl rfl)
    refine { cells := ?_, map := (EMap.new _ w).keep kA (fun e => by omega), mf := Nat.le_refl _, hf := hlt, sh := fun c hc => by omega, shf := fun c hc => by omega, sha := fun c c' hc => by omega, ln := fun c hc => by omega, lnf := fun c hc => by omega, lna := fun c c' hc => by omega, lsa := fun c c' hc => by omega, keeps := ((Keeps.refl _ _).alloc _).trans kA }
    rw [y2]
    congr 2)
  have HL := Hid.of hlt
  clear hH hlt
  go_enter Tryz.func110, Tryz.ntmps110
  go_wp2_with fail
  go_loopw [8] (fun i wr => ∃ (k : Nat) (sb : Nat → Nat) (sv : Nat → Value), k ≤ 24 ∧ i = .int .i64 k ∧ Hid (EI w hb a m u t q l w.heap.size k 0 sb sv (fun _ => 0) (fun _ => 0) wr)) (fun i _ => 24 - (intOf i).toNat)
  case atStart => exact ⟨0, _, _, by omega, rfl, E0⟩
  case round =>
    obtain ⟨k, sb, sv, hk, rfl, HI⟩ := hrel
    by_cases hlt : k < 24
    · have hkd : decide ((k : Int) < 24) = true := by simp; omega
      have hkd' : decide (k < 24) = true := by simpa using hlt
      have hki : (k : Int) < 24 := by omega
      have hk0 : (0 : Int) ≤ (k : Int) := by omega
      have y0 : wr.frozen? ⟨hb, 4 + k, none⟩ = false ∧ wr.cell? ⟨hb, 4 + k, none⟩ = some (q k) := ⟨free_of HI.out.cells _, HI.out.sc hlt⟩
      have q1 := Pc.slots_any wr.drew k hlt
      have hsr := (Pc.slots_range hlt).2
      have q2 := Sh.new_any wr.drew (Pc.slots k) (by omega)
      unfold Sh.NewR at q2
      obtain ⟨N, hN⟩ : ∃ N, Pc.slots k = N := ⟨_, rfl⟩
      rw [hN] at q1 q2
      have HN := Hid.of hN
      clear hN hsr
      go_wp2_with fail
      go_region_held3 (fun wx => wx.frozen? ⟨hb, 4 + k, none⟩ = false ∧ (wx.cell? ⟨hb, 4 + k, none⟩).isSome = true)
        (first | exact ⟨y0.1, congrArg Option.isSome y0.2⟩ | exact ⟨y3, congrArg Option.isSome x3⟩ | exact ⟨y4, congrArg Option.isSome x4⟩)
        (first
          | (go_at_call 182; refine q1.mono ?_; clear q1; rintro e w2 ⟨rfl, rfl⟩)
          | (go_at_call 176; refine q2.mono ?_; clear q2; rintro e w3 ⟨b, v, rfl, s3, f3, k3⟩; have H3 := HI.out.old k3.of_drew; have y3 := free_of H3.cells (4 + k); have x3 := H3.sc hlt; obtain ⟨w4, hw4⟩ : ∃ w4, w3.setCell ⟨hb, 4 + k, none⟩ (.pointer (some ⟨b, 0, none⟩)) = w4 := ⟨_, rfl⟩; have H4 := Hid.of (HI.out.addSlot hlt (by rw [HN.out]; exact s3) f3 k3.of_drew hw4); have y4 := free_of H4.out.cells (4 + k); have x4 := H4.out.sc1 hlt))
      clear s3 f3 k3 H3 y3 y4 y0 hw4 x3 x4
      go_wp2
      go_roundw
      case rel => exact ⟨k + 1, _, _, by omega, by go_num, H4⟩
      case measure => simp [intOf]; omega
    · obtain rfl : k = 24 := by omega
      have HI1 := Hid.of HI.out
      clear hlt hk HI E0 hw1 yA cA
      obtain ⟨wS, rfl⟩ : ∃ z, z = wr := ⟨_, rfl⟩
      go_wp2_with fail
      go_loopw [23] (fun i wr => ∃ (j : Nat) (lb lm : Nat → Nat), j ≤ 8 ∧ i = .int .i64 j ∧ Hid (EI w hb a m u t q l w.heap.size 24 j sb sv lb lm wr)) (fun i _ => 8 - (intOf i).toNat)
      case atStart => exact ⟨0, _, _, by omega, rfl, HI1⟩
      case round =>
        obtain ⟨j, lb, lm, hj, rfl, HI⟩ := hrel
        by_cases hlt : j < 8
        · have hkd : decide ((j : Int) < 8) = true := by simp; omega
          have hkd' : decide (j < 8) = true := by simpa using hlt
          have hki : (j : Int) < 8 := by omega
          have hk0 : (0 : Int) ≤ (j : Int) := by omega
          have y0 : wr.frozen? ⟨hb, 28 + j, none⟩ = false ∧ wr.cell? ⟨hb, 28 + j, none⟩ = some (l j) := ⟨free_of HI.out.cells _, HI.out.lc hlt⟩
          have q1 := Line.rep_new wr.drew
          go_wp2_with fail
          go_region_held3 (fun wx => wx.frozen? ⟨hb, 28 + j, none⟩ = false ∧ (wx.cell? ⟨hb, 28 + j, none⟩).isSome = true)
            (first | exact ⟨y0.1, congrArg Option.isSome y0.2⟩ | exact ⟨y3, congrArg Option.isSome x3⟩ | exact ⟨y4, congrArg Option.isSome x4⟩)
            (first
              | (go_at_call 201; refine q1.mono ?_; clear q1; rintro e w3 ⟨rfl, s3, k3⟩; have H3 := HI.out.old k3.of_drew; have y3 := free_of H3.cells (28 + j); have x3 := H3.lc hlt; obtain ⟨w4, hw4⟩ : ∃ w4, w3.setCell ⟨hb, 28 + j, none⟩ (.pointer (some ⟨wr.heap.size + 1, 0, none⟩)) = w4 := ⟨_, rfl⟩; have H4 := Hid.of (HI.out.addLine hlt s3 (fun x hx => (by rcases hx with e | e; exact e ▸ Nat.le_succ _; exact e ▸ Nat.le_refl _)) k3.of_drew hw4); have y4 := free_of H4.out.cells (28 + j); have x4 := H4.out.lc1 hlt))
          clear s3 k3 H3 y3 y4 y0 hw4 x3 x4
          go_wp2
          go_roundw
          case rel => exact ⟨j + 1, _, _, by omega, by go_num, H4⟩
          case measure => simp [intOf]; omega
        · obtain rfl : j = 8 := by omega
          have HI2 := Hid.of HI.out
          clear hlt hj HI
          go_wp2
          go_end0
          exact ⟨rfl, _, _, _, _, _, HI2.out⟩
end He
end Go.Proofs.YtnheibcjcgacpaaGreatDoor

/-! The heap package's walks: New, Pages, Table, Window. -/
namespace Go.Proofs.YtnheibcjcgacpaaGreatDoor
open Go.RowKit Go.ChangeMaps
namespace He
def emptyF : Nat → List Bool := fun c => List.replicate (Pc.slots c) true
theorem EI.at {w wr : World} {hb a m : Nat} {u : Value} {q l : Nat → Value} {D : Nat} {sb : Nat → Nat} {sv : Nat → Value} {lb lm : Nat → Nat} {tb tm tn : Nat} {W : List Int} {E G : Tab.Prs} (h : EI w hb (ptr a) (ptr m) u (ptr tb) q l D 24 8 sb sv lb lm wr) (g : Int → Pg.Pla) (o : Own w 3 1 u W.length (ints W)) (tb1 : Tab.At w tb tm tn E G) (hi : Tab.Inv E G) (hu : u.ownBlock ≠ some hb) (ht : hb ≠ tb ∧ hb ≠ tm ∧ hb ≠ tn) (hut : u.ownBlock ≠ some tb ∧ u.ownBlock ≠ some tm ∧ u.ownBlock ≠ some tn) :
    HAt wr ⟨hb, u, tb, tm, tn, sb, sv, lb, lm, D⟩ g a m ⟨W, E, G, emptyF, fun _ => [], []⟩ := by
  have old_box_win : ∀ x, x = hb → u.ownBlock = some x → False := fun x e1 e2 => hu (e1 ▸ e2)
  have old_win_box : ∀ x, u.ownBlock = some x → x = hb → False := fun x e1 e2 => hu (e2 ▸ e1)
  have old_box_tab : ∀ x, x = hb → (x = tb ∨ x = tm ∨ x = tn) → False := fun x e1 e2 => by
    rcases e2 with e | e | e
    · exact ht.1 (e1.symm.trans e)
    · exact ht.2.1 (e1.symm.trans e)
    · exact ht.2.2 (e1.symm.trans e)
  have old_tab_box : ∀ x, (x = tb ∨ x = tm ∨ x = tn) → x = hb → False := fun x e1 e2 => old_box_tab x e2 e1
  have old_win_tab : ∀ x, u.ownBlock = some x → (x = tb ∨ x = tm ∨ x = tn) → False := fun x e1 e2 => by
    rcases e2 with e | e | e
    · exact hut.1 (e ▸ e1)
    · exact hut.2.1 (e ▸ e1)
    · exact hut.2.2 (e ▸ e1)
  have old_tab_win : ∀ x, (x = tb ∨ x = tm ∨ x = tn) → u.ownBlock = some x → False := fun x e1 e2 => old_win_tab x e2 e1
  refine { cells := ?_, win := o.keep h.keeps (fun y hy e => hu (e ▸ hy)), tab := tb1.keep h.keeps (fun e => ht.1 e.symm) (fun e => ht.2.1 e.symm) (fun e => ht.2.2 e.symm), inv := hi, slot := h.sh, slen := fun c hc => by simp [emptyF], line := h.ln, small := h.map, page := fun v P hP => by simp [eget_nil] at hP, apart := fun i j hi hj hne x hx hy => ?_ }
  · rw [h.cells]
    exact congrArg (fun z => some (Obj.cells z 155 (0, 0))) (hc_congr (fun c hc => by simp [hc]) (fun c hc => by simp [hc]))
  cases i with
  | page v => exact absurd hi (by simp [okp, eget_nil])
  | box =>
    cases j with
    | page v => exact absurd hj (by simp [okp, eget_nil])
    | box => exact hne rfl
    | win => exact old_box_win x hx hy
    | tab => exact old_box_tab x hx hy
    | small => have : x = hb := hx; have := h.hf; have : x = D := hy; have := h.mf; omega
    | slot c' => have : x = hb := hx; have := h.hf; have := (h.shf c' hj x hy).1; omega
    | line c' => have : x = hb := hx; have := h.hf; have := (h.lnf c' hj x hy).1; omega
  | win =>
    cases j with
    | page v => exact absurd hj (by simp [okp, eget_nil])
    | box => exact old_win_box x hx hy
    | win => exact hne rfl
    | tab => exact old_win_tab x hx hy
    | small => have := o.lt (show u.ownBlock = some x from hx); have : x = D := hy; have := h.mf; omega
    | slot c' => have := o.lt (show u.ownBlock = some x from hx); have := (h.shf c' hj x hy).1; omega
    | line c' => have := o.lt (show u.ownBlock = some x from hx); have := (h.lnf c' hj x hy).1; omega
  | tab =>
    cases j with
    | page v => exact absurd hj (by simp [okp, eget_nil])
    | box => exact old_tab_box x hx hy
    | win => exact old_tab_win x hx hy
    | tab => exact hne rfl
    | small => have := tb1.lt; have : x = tb ∨ x = tm ∨ x = tn := hx; have : x = D := hy; have := h.mf; omega
    | slot c' => have := tb1.lt; have : x = tb ∨ x = tm ∨ x = tn := hx; have := (h.shf c' hj x hy).1; omega
    | line c' => have := tb1.lt; have : x = tb ∨ x = tm ∨ x = tn := hx; have := (h.lnf c' hj x hy).1; omega
  | small =>
    cases j with
    | page v => exact absurd hj (by simp [okp, eget_nil])
    | box => have : x = D := hx; have := h.mf; have : x = hb := hy; have := h.hf; omega
    | win => have : x = D := hx; have := h.mf; have := o.lt (show u.ownBlock = some x from hy); omega
    | tab => have : x = D := hx; have := h.mf; have := tb1.lt; have : x = tb ∨ x = tm ∨ x = tn := hy; omega
    | small => exact hne rfl
    | slot c' => exact (h.shf c' hj x hy).2 hx
    | line c' => exact (h.lnf c' hj x hy).2 hx
  | slot c =>
    cases j with
    | page v => exact absurd hj (by simp [okp, eget_nil])
    | box => have := (h.shf c hi x hx).1; have : x = hb := hy; have := h.hf; omega
    | win => have := (h.shf c hi x hx).1; have := o.lt (show u.ownBlock = some x from hy); omega
    | tab => have := (h.shf c hi x hx).1; have := tb1.lt; have : x = tb ∨ x = tm ∨ x = tn := hy; omega
    | small => exact (h.shf c hi x hx).2 hy
    | slot c' => exact h.sha c c' hi hj (fun e => hne (by rw [e])) x hx hy
    | line c' => exact h.lsa c c' hi hj x hx hy
  | line c =>
    cases j with
    | page v => exact absurd hj (by simp [okp, eget_nil])
    | box => have := (h.lnf c hi x hx).1; have : x = hb := hy; have := h.hf; omega
    | win => have := (h.lnf c hi x hx).1; have := o.lt (show u.ownBlock = some x from hy); omega
    | tab => have := (h.lnf c hi x hx).1; have := tb1.lt; have : x = tb ∨ x = tm ∨ x = tn := hy; omega
    | small => exact (h.lnf c hi x hx).2 hy
    | slot c' => exact h.lsa c' c hj hi x hy hx
    | line c' => exact h.lna c c' hi hj (fun e => hne (by rw [e])) x hx hy
def NwR (w : World) (g : Int → Pg.Pla) (p : Ar.Pl) (v : Value) (cp : Co.Pla) (W : List Int) (S : Ar.AS) (M : Co.CM) (e : Ending) (w' : World) : Prop := ∃ X : HX, e = .returned (.tuple #[.pointer (some ⟨X.hb, 0, none⟩), .int .i64 0]) ∧ HJ w' X g p v cp ⟨W, [], [], emptyF, fun _ => [], []⟩ S M ∧ (∀ x, Fp X g [] x → w.heap.size ≤ x) ∧ Keeps (fun _ => False) w w'
set_option maxRecDepth 100000 in
set_option maxHeartbeats 1000000 in
theorem new_any (w : World) (g : Int → Pg.Pla) (p : Ar.Pl) (v : Value) (cp : Co.Pla) (S : Ar.AS) (M : Co.CM) (A : Option Addr) (n cap : Nat) (W : List Int) (hA : A = none → n = 0 ∧ cap = 0) (hl : W.length = n) (hr : Rd w A (ints W)) (hn : n ≤ 17592186044416) (ar : Ar.AtV w p v S) (co : Co.At w cp M) (T : Sh.Tab w) (ac : ∀ x, Ar.Fp p v x → ¬ Co.Fp cp M.C x) (off : ∀ x, Ar.Fp p v x ∨ Co.Fp cp M.C x → x ≠ 0) (bl : S.B.length = M.P * 512) :
    Calls Tryz.prog 79 #[.pointer (some ⟨p.a, 0, none⟩), .pointer (some ⟨cp.m, 0, none⟩), .slice A n cap] w (NwR w g p v cp W S M) := by
  have qc := clone_ints w A n cap (ints W) hA (by rw [ints_length]; exact hl) hr (fun u hu => by unfold ints at hu; obtain ⟨c, _, rfl⟩ := List.mem_map.1 hu; rfl) (by omega)
  unfold CloneR at qc
  have qt := fun wx => Tab.new_any wx
  have HH := Hid.of (And.intro ar (And.intro co (And.intro T (And.intro ac (And.intro off (And.intro bl hl))))))
  clear ar co T ac off bl hr hl hn hA
  go_enter Tryz.func79, Tryz.ntmps79
  go_wp2_with fail
  refine qc.mono ?_
  rintro e w1 ⟨u, rfl, o1, k1⟩
  obtain ⟨A1, cap1, rfl, -, -, -⟩ := o1.rd
  have H1 := Hid.of (And.intro o1 k1)
  clear qc o1 k1
  go_wp2_with fail
  refine (qt _).mono ?_
  rintro e w2 ⟨tb, tm, tn, rfl, t2, f2, k2⟩
  have H2 := Hid.of (And.intro t2 (And.intro f2 k2))
  clear qt t2 f2 k2
  go_wp2_with fail
  refine (empty_any _ w2.heap.size (ptr p.a) (ptr cp.m) (.slice A1 n cap1) (ptr tb) (fun _ => .pointer none) (fun _ => .pointer none) (.map none) (by exact alloc_new _ _)).mono ?_
  rintro e w4 ⟨rfl, D, sb, sv, lb, lm, hE⟩
  have HF := Hid.of (show ∃ X : HX, X.hb = w2.heap.size ∧ HJ w4 X g p v cp ⟨W, [], [], emptyF, fun _ => [], []⟩ S M ∧ (∀ x, Fp X g [] x → w.heap.size ≤ x) ∧ Keeps (fun _ => False) w w4 from by
    obtain ⟨ar, co, T, ac, off, bl, hl⟩ := HH.out
    obtain ⟨o1, k1⟩ := H1.out
    obtain ⟨t2, f2, f3, f4, k2⟩ := H2.out
    obtain ⟨b2, b3, b4⟩ := t2.lt
    have s1 := k1.size
    have s2 := k2.size
    obtain ⟨w3, hw3⟩ : ∃ w3, w2.alloc (.cells (hc (ptr p.a) (ptr cp.m) (.slice A1 n cap1) (ptr tb) (fun _ => .pointer none) (fun _ => .pointer none) (.map none)) 155) = w3 := ⟨_, rfl⟩
    have hE : EI w3 w2.heap.size (ptr p.a) (ptr cp.m) (.slice A1 n cap1) (ptr tb) (fun _ => .pointer none) (fun _ => .pointer none) D 24 8 sb sv lb lm w4 := by rw [← hw3]; exact hE
    have k3 : Keeps (fun _ => False) w2 w3 := by rw [← hw3]; exact (Keeps.refl _ _).alloc _
    have kk : Keeps (fun _ => False) w w4 := (k1.trans (k2.trans k3)).trans' hE.keeps (fun x hx hlt => by have hx : x = w2.heap.size := hx; omega)
    have ow := (o1.1.keep k2 (fun _ _ x => x))
    have olt : ∀ x, (Value.slice A1 n cap1).ownBlock = some x → x < w1.heap.size := fun x hx => o1.1.lt hx
    subst hl
    have ha := hE.at g (ow.keep k3 (fun _ _ x => x)) (t2.old k3) Tab.Inv.nil (fun e => by have := olt _ e; omega) ⟨by omega, by omega, by omega⟩ ⟨fun e => by have := olt _ e; omega, fun e => by have := olt _ e; omega, fun e => by have := olt _ e; omega⟩
    have hz : w2.heap.size ≤ D := by have := hE.mf; have := k3.size; omega
    have fr : ∀ x, Fp ⟨w2.heap.size, .slice A1 W.length cap1, tb, tm, tn, sb, sv, lb, lm, D⟩ g [] x → w.heap.size ≤ x := by
      rintro x ⟨i, hi, hx⟩
      have s3 := k3.size
      cases i with
      | page v => exact absurd hi (by simp [okp, eget_nil])
      | box => have : x = w2.heap.size := hx; omega
      | win => exact o1.2 x hx
      | tab => have : x = tb ∨ x = tm ∨ x = tn := hx; omega
      | small => have : x = D := hx; omega
      | slot c => have := (hE.shf c hi x hx).1; omega
      | line c => have := (hE.lnf c hi x hx).1; omega
    refine ⟨_, rfl, { h := ha, ar := ar.old kk, co := co.old kk, T := T.old kk, ha := fun x hx hy => ?_, hc := fun x hx hy => ?_, ac := ac, off := fun x hx => ?_, bl := bl, pg := fun k => ?_ }, fr, kk⟩
    · have := fr x hx; have := ar.lt hy; omega
    · have := fr x hx; have := co.lt hy; omega
    · rcases hx with e | e
      · have := fr x e; have := T.lt; omega
      · exact off x e
    · have := co.p.1; show Tab.fnd [] k < _; simp [Tab.fnd, eget_nil]; omega)
  clear hE
  go_wp2
  go_ret2
  obtain ⟨X, e1, h1⟩ := HF.out
  exact ⟨X, by rw [e1]; rfl, h1⟩
set_option maxRecDepth 100000 in
theorem pages_any (w : World) (X : HX) (g : Int → Pg.Pla) (p : Ar.Pl) (v : Value) (cp : Co.Pla) (H : HS) (S : Ar.AS) (M : Co.CM) (j : HJ w X g p v cp H S M) :
    Calls Tryz.prog 24 #[.pointer (some ⟨X.hb, 0, none⟩)] w fun e w' => e = .returned (.int .i64 H.E.length) ∧ w = w' := by
  obtain ⟨-, -, -, c3, -⟩ := j.h.four
  have q := Tab.len_any w X.tb X.tm X.tn H.E H.G j.h.tab
  clear j
  go_enter Tryz.func24, Tryz.ntmps24
  go_wp2_with fail
  refine q.mono ?_
  rintro e w3 ⟨rfl, rfl⟩
  clear q
  go_wp2
  go_ret
  exact ⟨rfl, rfl⟩
set_option maxRecDepth 100000 in
theorem table_any (w : World) (X : HX) (g : Int → Pg.Pla) (p : Ar.Pl) (v : Value) (cp : Co.Pla) (H : HS) (S : Ar.AS) (M : Co.CM) (j : HJ w X g p v cp H S M) :
    Calls Tryz.prog 26 #[.pointer (some ⟨X.hb, 0, none⟩)] w fun e w' => e = .returned (.pointer (some ⟨X.tb, 0, none⟩)) ∧ w = w' := by
  obtain ⟨-, -, -, c3, -⟩ := j.h.four
  clear j
  go_enter Tryz.func26, Tryz.ntmps26
  go_wp2
  go_ret
  exact ⟨rfl, rfl⟩
set_option maxRecDepth 100000 in
theorem window_any (w : World) (X : HX) (g : Int → Pg.Pla) (p : Ar.Pl) (v : Value) (cp : Co.Pla) (H : HS) (S : Ar.AS) (M : Co.CM) (j : HJ w X g p v cp H S M) (hn : H.W.length ≤ 1000000) :
    Calls Tryz.prog 41 #[.pointer (some ⟨X.hb, 0, none⟩)] w (CloneR w H.W.length (ints H.W)) := by
  obtain ⟨-, -, c2, -, -⟩ := j.h.four
  obtain ⟨A, cap, hu, hc, hAn, hrd⟩ := j.h.win.rd
  have q := clone_ints w A H.W.length cap (ints H.W) (fun e => by
    have h1 := j.h.win; rw [hu, e] at h1; rcases h1.2 with ⟨h2, h3⟩ | ⟨_, _, _, h2, _⟩; (injection h2 with _ h4 h5; exact ⟨h3, h5⟩); (injection h2 with h4; cases h4)) (by rw [ints_length]) hrd (fun u hu => by unfold ints at hu; obtain ⟨c, _, rfl⟩ := List.mem_map.1 hu; rfl) (by omega)
  rw [hu] at c2
  clear j hu hc hAn hrd
  generalize ints H.W = I at *
  generalize H.W.length = n at *
  go_enter Tryz.func41, Tryz.ntmps41
  go_wp2_with fail
  refine q.mono ?_
  unfold CloneR
  rintro e w3 ⟨u, rfl, o3, k3⟩
  obtain ⟨A1, cap1, rfl, -, -, -⟩ := o3.rd
  have HF := Hid.of (And.intro o3 k3)
  clear q o3 k3
  go_wp2
  go_ret
  exact ⟨_, rfl, HF.out⟩
end He
end Go.Proofs.YtnheibcjcgacpaaGreatDoor
