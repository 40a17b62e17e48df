/- The table package's walks: New, look, Find, Holder, put, Map, Unmap, Swap, Len. -/
import Derived.Test.YtcjdejhjbelggaaRows
import Derived.Test.YtcjdejhjbelggaaLineP
import Derived.Test.YtcjdejhjbelggaaEntry
import Derived.WalkSpells
import Derived.WalkLawsBesides
import Derived.BigQuiet
import Derived.BigRegion
import Derived.Deep.QuietTactic
set_option linter.unusedVariables false
set_option linter.unusedSimpArgs false
namespace Go.Proofs.Ytcjdejhjbelggaa
open Go.RowKit Go.ChangeMaps
namespace Tab
abbrev Prs := List (Int × Int)
theorem zero_int (w : World) : (zeroValue 3).run Try.prog w = .ok (.int .i64 0) w := by kernel_rfl
/-- The block of a table, its two maps' blocks and pairs. -/
def At (w : World) (b m n : Nat) (E G : Prs) : Prop :=
  w.heap[b]? = some (.cells #[.map (some m), .map (some n)] 52 (0, 0)) ∧ EMap (Value.int .i64) w m E ∧ EMap (Value.int .i64) w n G ∧ b ≠ m ∧ b ≠ n ∧ m ≠ n
theorem At.keep {F : Nat → Prop} {w w' : World} {b m n : Nat} {E G : Prs} (h : At w b m n E G) (hk : Keeps F w w') (hb : ¬ F b) (hm : ¬ F m) (hn : ¬ F n) : At w' b m n E G :=
  ⟨hk.at h.1 hb, h.2.1.keep hk hm, h.2.2.1.keep hk hn, h.2.2.2⟩
theorem At.old {w w' : World} {b m n : Nat} {E G : Prs} (h : At w b m n E G) (hk : Keeps (fun _ => False) w w') : At w' b m n E G := h.keep hk (fun x => x) (fun x => x) (fun x => x)
theorem At.cells {w : World} {b m n : Nat} {E G : Prs} (h : At w b m n E G) : w.cell? ⟨b, 0, none⟩ = some (.map (some m)) ∧ w.cell? ⟨b, 1, none⟩ = some (.map (some n)) := ⟨cell_of h.1 0 rfl, cell_of h.1 1 rfl⟩
theorem At.lt {w : World} {b m n : Nat} {E G : Prs} (h : At w b m n E G) : b < w.heap.size ∧ m < w.heap.size ∧ n < w.heap.size := ⟨lt_of h.1, h.2.1.lt, h.2.2.1.lt⟩

def fnd (E : Prs) (k : Int) : Int := (eget E k).getD (-1)

set_option maxRecDepth 100000 in
set_option maxHeartbeats 400000 in
theorem look_any (w : World) (m : Nat) (E : Prs) (k : Int) (h : EMap (Value.int .i64) w m E) :
    Calls Try.prog 30 #[.map (some m), .int .i64 k] w fun e w' => e = .returned (.int .i64 (fnd E k)) ∧ w = w' := by
  have hl := h.look_ok (P := Try.prog) _ Try.underlying50 Try.underlying3 k (z := 0) (zero_int _)
  unfold fnd
  clear h
  cases hE : eget E k with
  | none =>
    rw [hE] at hl
    simp only [Option.getD_none, Option.isSome_none] at hl ⊢
    clear hE
    go_enter Try.func30, Try.ntmps30
    go_wp2
    go_ret
    exact ⟨rfl, rfl⟩
  | some x =>
    rw [hE] at hl
    simp only [Option.getD_some, Option.isSome_some] at hl ⊢
    clear hE
    go_enter Try.func30, Try.ntmps30
    go_wp2
    go_ret
    exact ⟨rfl, rfl⟩
set_option maxRecDepth 100000 in
set_option maxHeartbeats 400000 in
theorem find_any (w : World) (b m n : Nat) (E G : Prs) (k : Int) (h : At w b m n E G) :
    Calls Try.prog 17 #[.pointer (some ⟨b, 0, none⟩), .int .i64 k] w fun e w' => e = .returned (.int .i64 (fnd E k)) ∧ w = w' := by
  obtain ⟨c0, c1⟩ := h.cells
  have hc := look_any w m E k h.2.1
  clear h
  go_enter Try.func17, Try.ntmps17
  go_wp2_with fail
  refine hc.mono ?_
  rintro e w' ⟨rfl, rfl⟩
  go_wp2
  go_ret
  exact ⟨rfl, rfl⟩
set_option maxRecDepth 100000 in
set_option maxHeartbeats 400000 in
theorem holder_any (w : World) (b m n : Nat) (E G : Prs) (k : Int) (h : At w b m n E G) :
    Calls Try.prog 19 #[.pointer (some ⟨b, 0, none⟩), .int .i64 k] w fun e w' => e = .returned (.int .i64 (fnd G k)) ∧ w = w' := by
  obtain ⟨c0, c1⟩ := h.cells
  have hc := look_any w n G k h.2.2.1
  clear h
  go_enter Try.func19, Try.ntmps19
  go_wp2_with fail
  refine hc.mono ?_
  rintro e w' ⟨rfl, rfl⟩
  go_wp2
  go_ret
  exact ⟨rfl, rfl⟩
set_option maxRecDepth 100000 in
set_option maxHeartbeats 400000 in
theorem len_any (w : World) (b m n : Nat) (E G : Prs) (h : At w b m n E G) :
    Calls Try.prog 21 #[.pointer (some ⟨b, 0, none⟩)] w fun e w' => e = .returned (.int .i64 E.length) ∧ w = w' := by
  obtain ⟨c0, c1⟩ := h.cells
  have hl := h.2.1.len (P := Try.prog) (ty := 3) Try.underlying50
  clear h
  go_enter Try.func21, Try.ntmps21
  go_wp2
  go_ret
  exact ⟨rfl, rfl⟩
set_option maxRecDepth 100000 in
set_option maxHeartbeats 400000 in
theorem new_any (w : World) : Calls Try.prog 6 #[] w fun e w' => ∃ b m n, e = .returned (.pointer (some ⟨b, 0, none⟩)) ∧ At w' b m n [] [] ∧ w.heap.size ≤ b ∧ w.heap.size ≤ m ∧ w.heap.size ≤ n ∧ Keeps (fun _ => False) w w' := by
  have hmm := @run_makeMap Try.prog
  go_enter Try.func6, Try.ntmps6
  go_wp2
  go_ret
  refine ⟨_, w.heap.size, w.heap.size + 1, rfl, ⟨?_, ?_, ?_, by omega, by omega, by omega⟩, by omega, by omega, by omega, (((Keeps.refl _ _).alloc _).alloc _).alloc _⟩
  · exact alloc_at _ _ _ (by simp)
  · exact ((EMap.new _ w).alloc _).alloc _
  · have := EMap.new (Value.int .i64) (w.alloc (.map #[] 0))
    simp only [World.size_alloc] at this
    exact this.alloc _

set_option maxRecDepth 100000 in
set_option maxHeartbeats 4000000 in
theorem put_any (w : World) (b m n : Nat) (E G : Prs) (v p : Int) (h : At w b m n E G) :
    Calls Try.prog 25 #[.pointer (some ⟨b, 0, none⟩), .int .i64 v, .int .i64 p] w fun e w' => e = .returned (.tuple #[]) ∧ At w' b m n (eset E v p) (eset G p v) ∧ Keeps (fun x => x = m ∨ x = n) w w' := by
  have hb := h.1
  have hbm := h.2.2.2.1
  have hbn := h.2.2.2.2.1
  have hmn := h.2.2.2.2.2
  have hlt := h.lt
  have c0 := cell_of hb 0 rfl
  have c1 := cell_of hb 1 rfl
  obtain ⟨z1, s1, w1, w2, he1, k1, hs1, hE, k2⟩ := h.2.1.drew.entry (P := Try.prog) _ Try.underlying50 Try.underlying3 v (zero_int _) p
  have hG2 : EMap (Value.int .i64) w2 n G := h.2.2.1.drew.keep k2 (fun e => hmn e.symm)
  obtain ⟨z2, s2, w3, w4, he2, k3, hs2, hG, k4⟩ := hG2.entry (P := Try.prog) _ Try.underlying50 Try.underlying3 p (zero_int _) v
  have c11 := cell_of (k1.at (a := w.drew) hb hbm) 1 rfl
  have c12 := cell_of (k2.at (a := w.drew) hb hbm) 1 rfl
  have hfin : At w4 b m n (eset E v p) (eset G p v) ∧ Keeps (fun x => x = m ∨ x = n) w w4 :=
    ⟨⟨k4.at (k2.at (a := w.drew) hb hbm) hbn, hE.keep k4 hmn, hG, hbm, hbn, hmn⟩, (k2.of_drew.mono (fun x _ e => .inl e)).trans (k4.mono (fun x _ e => .inr e))⟩
  have HF := Hid.of hfin
  clear hfin hE hG2 hG k1 k2 k3 k4 hb h hlt hbm hbn hmn
  go_enter Try.func25, Try.ntmps25
  go_wp2
  go_region
  all_goals (try go_wp2)
  all_goals (go_end0; exact ⟨rfl, HF.out⟩)
end Tab
end Go.Proofs.Ytcjdejhjbelggaa
