/- The caps package's walk: Copy; maps.Clone at its map. -/
import Derived.Test.YtagmkkddjdlncaaDoorRows
import Derived.Test.YtagmkkddjdlncaaDoorCaE
import Derived.Shelf.SlMaps.Clone
import Derived.WalkSpells
import Derived.WalkLawsBesides
set_option linter.unusedVariables false
set_option linter.unusedSimpArgs false
namespace Go.Proofs.YtagmkkddjdlncaaDoor
open Go.RowKit Go.ChangeMaps

set_option maxRecDepth 100000 in
set_option maxHeartbeats 1000000 in
theorem clone_slot (w : World) (r : Nat) (es : Array MapEntry) (cl : Nat) (hb : w.heap[r]? = some (.map es cl)) :
    Calls Tryd.prog 38 #[.map (some r)] w fun e w' => e = .returned (.map (some w.heap.size)) ∧ w' = w.alloc (.map es cl) := by
  have hq := fun w => run_eql_map_nil_sl (P := Tryd.prog) w 78 _ _ (some r) Tryd.underlying78
  go_enter Tryd.func38, Tryd.ntmps38
  go_wp2
  rw [run_callFunc_extern Tryd.func40 (by kernel_rfl) (by kernel_rfl) (by kernel_rfl) (e := Extern.MapsClone.clone) (by kernel_rfl), run_maps_clone_sl w 78 hb]
  simp only [Result.andThen]
  rw [Oper.upon_value]
  go_wp2
  rw [run_typeAssert_map_sl _ 78 20 _ _ _ Tryd.underlying78]
  simp only [Result.andThen]
  rw [Oper.upon_value]
  go_wp2
  go_ret
  exact ⟨rfl, rfl⟩
namespace Ca
def CloneR (w : World) (E : List (Int × Slt)) (e : Ending) (w' : World) : Prop := ∃ m, e = .returned (.map (some m)) ∧ EMap Slt.enc w' m E ∧ m = w.heap.size ∧ Keeps (fun _ => False) w w'
theorem clone_any (w : World) (m : Nat) (E : List (Int × Slt)) (h : EMap Slt.enc w m E) :
    Calls Tryd.prog 38 #[.map (some m)] w (CloneR w E) := by
  obtain ⟨es, cl, hb, hs, hl⟩ := h
  refine (clone_slot w m es cl hb).mono ?_
  rintro e w' ⟨rfl, rfl⟩
  exact ⟨_, rfl, ⟨es, cl, alloc_new _ _, hs, hl⟩, rfl, (Keeps.refl _ _).alloc _⟩
def CopyR (w : World) (C : Cp) (e : Ending) (w' : World) : Prop := ∃ p : Pl, e = .returned (.pointer (some ⟨p.c, 0, none⟩)) ∧ At w' p C ∧ (∀ x, Fp p x → w.heap.size ≤ x) ∧ Keeps (fun _ => False) w w'
set_option maxRecDepth 100000 in
set_option maxHeartbeats 8000000 in
theorem copy_any (w : World) (p : Pl) (C : Cp) (H : At w p C) (hT : Sh.Tab w) :
    Calls Tryd.prog 20 #[.pointer (some ⟨p.c, 0, none⟩)] w (CopyR w C) := by
  have q1 := clone_any w.drew p.m C.E H.map.drew
  have c0 := cell_of (v := .int .i64 C.T) H.cells 0 rfl
  have c1 := cell_of (v := .int .i64 C.N) H.cells 1 rfl
  have c2 := cell_of (v := .map (some p.m)) H.cells 2 rfl
  have c3 := cell_of (v := .pointer (some ⟨p.s, 0, none⟩)) H.cells 3 rfl
  have c4 := cell_of (v := .pointer (some ⟨p.u, 0, none⟩)) H.cells 4 rfl
  have HH := Hid.of H
  have hg := Hid.of hT.lt
  clear H hT
  go_enter Tryd.func20, Tryd.ntmps20
  go_wp2
  go_region_held3 (fun wx => wx.cell? ⟨p.c, 0, none⟩ = some (.int .i64 C.T) ∧ wx.cell? ⟨p.c, 1, none⟩ = some (.int .i64 C.N) ∧ wx.cell? ⟨p.c, 2, none⟩ = some (.map (some p.m)) ∧ wx.cell? ⟨p.c, 3, none⟩ = some (.pointer (some ⟨p.s, 0, none⟩)) ∧ wx.cell? ⟨p.c, 4, none⟩ = some (.pointer (some ⟨p.u, 0, none⟩)))
    (first | exact ⟨c0, c1, c2, c3, c4⟩ | exact ⟨cell_of H1.cells 0 rfl, cell_of H1.cells 1 rfl, cell_of H1.cells 2 rfl, cell_of H1.cells 3 rfl, cell_of H1.cells 4 rfl⟩ | exact ⟨cell_of H2.cells 0 rfl, cell_of H2.cells 1 rfl, cell_of H2.cells 2 rfl, cell_of H2.cells 3 rfl, cell_of H2.cells 4 rfl⟩ | exact ⟨cell_of H3.cells 0 rfl, cell_of H3.cells 1 rfl, cell_of H3.cells 2 rfl, cell_of H3.cells 3 rfl, cell_of H3.cells 4 rfl⟩ | exact ⟨cell_of H4.cells 0 rfl, cell_of H4.cells 1 rfl, cell_of H4.cells 2 rfl, cell_of H4.cells 3 rfl, cell_of H4.cells 4 rfl⟩)
    (first
      | (go_at_call 38; refine q1.mono ?_; rintro e w1 ⟨m', rfl, mm, em, k1⟩; have EM := Hid.of em; clear em; have H1 := HH.out.old k1.of_drew; have q2 := Sh.copy_any w1 p.s p.v C.A H1.sa)
      | (go_at_call 39; refine q2.mono ?_; clear q2; rintro e w2 ⟨s', v', rfl, a2, f2, k2⟩; have H2 := H1.old k2; have q3 := Sh.copy_any w2 p.u p.x C.B H2.sb)
      | (go_at_call 39; refine q3.mono ?_; clear q3; rintro e w3 ⟨u', x', rfl, b3, f3, k3⟩; have H3 := H2.old k3; have H4 := H3.old ((Keeps.refl (fun _ => False) w3).alloc (.cells #[.int .i64 C.T, .int .i64 C.N, .map (some m'), .pointer (some ⟨s', 0, none⟩), .pointer (some ⟨u', 0, none⟩)] 81))))
  go_wp2
  go_ret
  have k4 : Keeps (fun _ => False) w3 (w3.alloc (.cells #[.int .i64 C.T, .int .i64 C.N, .map (some m'), .pointer (some ⟨s', 0, none⟩), .pointer (some ⟨u', 0, none⟩)] 81)) := (Keeps.refl _ _).alloc _
  have c4' := alloc_new w3 (.cells #[.int .i64 C.T, .int .i64 C.N, .map (some m'), .pointer (some ⟨s', 0, none⟩), .pointer (some ⟨u', 0, none⟩)] 81)
  generalize w3.alloc (.cells #[.int .i64 C.T, .int .i64 C.N, .map (some m'), .pointer (some ⟨s', 0, none⟩), .pointer (some ⟨u', 0, none⟩)] 81) = w4 at *
  have z1 : w.heap.size ≤ w1.heap.size := k1.size
  have z2 := k2.size
  have z3 := k3.size
  have em' : m' = w.heap.size := EM.out
  have hm1 := mm.lt
  have hg' := hg.out
  have la : ∀ i, Sh.Fp s' v' i → w1.heap.size ≤ i ∧ i < w2.heap.size := fun i hi => ⟨f2 i hi, a2.lt hi⟩
  have lb : ∀ i, Sh.Fp u' x' i → w2.heap.size ≤ i ∧ i < w3.heap.size := fun i hi => ⟨f3 i hi, b3.lt hi⟩
  obtain ⟨c', hc'⟩ : ∃ c', w3.heap.size = c' := ⟨_, rfl⟩
  rw [hc'] at c4' ⊢
  refine ⟨⟨c', m', s', u', v', x'⟩, rfl, ⟨c4', ((mm.keep k2 (fun x => x)).keep k3 (fun x => x)).keep k4 (fun x => x), (a2.old k3).old k4, b3.old k4, ?_, ?_, ?_, ?_, ?_, ?_, ?_⟩, ?_, ((k1.of_drew.trans k2).trans k3).trans k4⟩
  · show c' ≠ m'; omega
  · intro h; have h' := la _ h; simp only at h'; omega
  · intro h; have h' := lb _ h; simp only at h'; omega
  · intro h; have h' := la _ h; simp only at h'; omega
  · intro h; have h' := lb _ h; simp only at h'; omega
  · intro i hi hj; have h1 := la i hi; have h2 := lb i hj; omega
  · rintro (h | h | h | h)
    · simp only at h; omega
    · simp only at h; omega
    · have := la _ h; omega
    · have := lb _ h; omega
  · rintro i (h | h | h | h)
    · simp only at h; omega
    · simp only at h; omega
    · have := la _ h; omega
    · have := lb _ h; omega
end Ca
end Go.Proofs.YtagmkkddjdlncaaDoor
