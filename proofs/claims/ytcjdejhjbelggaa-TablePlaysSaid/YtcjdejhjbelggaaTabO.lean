/- The table's Copy (two maps cloned, in whatever order). -/
import Derived.Test.YtcjdejhjbelggaaTabE
import Derived.Shelf.SlMaps.Clone
import Derived.Deep.RegionHeld3
set_option linter.unusedVariables false
set_option linter.unusedSimpArgs false
namespace Go.Proofs.Ytcjdejhjbelggaa
open Go.RowKit Go.ChangeMaps
set_option maxRecDepth 100000 in
set_option maxHeartbeats 1000000 in
theorem clone_int (w : World) (r : Nat) (es : Array MapEntry) (cl : Nat) (hb : w.heap[r]? = some (.map es cl)) :
    Calls Try.prog 29 #[.map (some r)] w fun e w' => e = .returned (.map (some w.heap.size)) ∧ w' = w.alloc (.map es cl) := by
  have hq := fun w => run_eql_map_nil_sl (P := Try.prog) w 50 _ _ (some r) Try.underlying50
  go_enter Try.func29, Try.ntmps29
  go_wp2
  rw [run_callFunc_extern Try.func33 (by kernel_rfl) (by kernel_rfl) (by kernel_rfl) (e := Extern.MapsClone.clone) (by kernel_rfl), run_maps_clone_sl w 50 hb]
  simp only [Result.andThen]
  rw [Oper.upon_value]
  go_wp2
  rw [run_typeAssert_map_sl _ 50 20 _ _ _ Try.underlying50]
  simp only [Result.andThen]
  rw [Oper.upon_value]
  go_wp2
  go_ret
  exact ⟨rfl, rfl⟩
theorem clone_any (w : World) (r : Nat) (E : Tab.Prs) (h : EMap (Value.int .i64) w r E) :
    Calls Try.prog 29 #[.map (some r)] w fun e w' => e = .returned (.map (some w.heap.size)) ∧ EMap (Value.int .i64) w' w.heap.size E ∧ Keeps (fun _ => False) w w' ∧ w'.heap.size = w.heap.size + 1 := by
  unfold EMap IMap at h
  obtain ⟨es, cl, hb, hs, hl⟩ := h
  refine (clone_int w r es cl hb).mono fun e w' ⟨h1, h2⟩ => ⟨h1, ?_, ?_, ?_⟩
  · rw [h2]; exact ⟨es, cl, alloc_new _ _, hs, hl⟩
  · rw [h2]; exact (Keeps.refl _ _).alloc _
  · rw [h2]; simp
theorem keep_cell2 {w w' : World} {b i : Nat} {v : Value} (k : Keeps (fun _ => False) w.drew w') (h : w.cell? ⟨b, i, none⟩ = some v) : w'.cell? ⟨b, i, none⟩ = some v := by
  have hr : Rd w.drew (some ⟨b, i, none⟩) [v] := by
    intro j u hu
    cases j with
    | zero => simp at hu; subst hu; exact ⟨_, rfl, by simpa [Addr.add] using h⟩
    | succ j => simp at hu
  obtain ⟨ad, e, hc⟩ := (hr.old k) 0 v rfl
  cases e
  simpa [Addr.add] using hc
theorem keep_cell1 {w w' : World} {b i : Nat} {v : Value} (k : Keeps (fun _ => False) w w') (h : w.cell? ⟨b, i, none⟩ = some v) : w'.cell? ⟨b, i, none⟩ = some v := by
  have hr : Rd w (some ⟨b, i, none⟩) [v] := by
    intro j u hu
    cases j with
    | zero => simp at hu; subst hu; exact ⟨_, rfl, by simpa [Addr.add] using h⟩
    | succ j => simp at hu
  obtain ⟨ad, e, hc⟩ := (hr.old k) 0 v rfl
  cases e
  simpa [Addr.add] using hc
namespace Tab
set_option maxRecDepth 100000 in
set_option maxHeartbeats 1000000 in
theorem copy_any (w : World) (b m n : Nat) (E G : Prs) (h : At w b m n E G) :
    Calls Try.prog 16 #[.pointer (some ⟨b, 0, none⟩)] w fun e w' => ∃ b' m' n', e = .returned (.pointer (some ⟨b', 0, none⟩)) ∧ At w' b' m' n' E G ∧ w.heap.size ≤ b' ∧ w.heap.size ≤ m' ∧ w.heap.size ≤ n' ∧ Keeps (fun _ => False) w w' := by
  obtain ⟨c0, c1⟩ := h.cells
  have hm0 : EMap (Value.int .i64) w.drew m E := h.2.1
  have hn0 : EMap (Value.int .i64) w.drew n G := h.2.2.1
  clear h
  go_enter Try.func16, Try.ntmps16
  go_wp2
  go_region_held3 (fun wx => wx.cell? ⟨b, 0, none⟩ = some (.map (some m)) ∧ wx.cell? ⟨b, 1, none⟩ = some (.map (some n)))
    (first | exact ⟨c0, c1⟩ | exact ⟨y0, y1⟩ | exact ⟨z0, z1⟩ | exact ⟨keep_cell1 ((Keeps.refl _ _).alloc _) z0, keep_cell1 ((Keeps.refl _ _).alloc _) z1⟩)
    (first
      | (go_at_call 29; have kk := kn; refine (clone_any _ m E hm1).mono ?_; rintro e w2 ⟨rfl, hE, k2, s2⟩; have z0 := keep_cell1 k2 y0; have z1 := keep_cell1 k2 y1)
      | (go_at_call 29; have kk := km; refine (clone_any _ n G hn1).mono ?_; rintro e w2 ⟨rfl, hG, k2, s2⟩; have z0 := keep_cell1 k2 y0; have z1 := keep_cell1 k2 y1)
      | (go_at_call 29; refine (clone_any w.drew m E hm0).mono ?_; rintro e w1 ⟨rfl, hE, km, s1⟩; have hn1 := hn0.keep km (fun x => x); have y0 := keep_cell2 km c0; have y1 := keep_cell2 km c1)
      | (go_at_call 29; refine (clone_any w.drew n G hn0).mono ?_; rintro e w1 ⟨rfl, hG, kn, s1⟩; have hm1 := hm0.keep kn (fun x => x); have y0 := keep_cell2 kn c0; have y1 := keep_cell2 kn c1))
  all_goals
    go_wp2
    go_ret
    have e1 : w1.heap.size = w.heap.size + 1 := s1
    have hE' : EMap (Value.int .i64) w1 w.heap.size E := hE
    have hG' := hG
    rw [e1] at hG'
    have hK : Keeps (fun _ => False) w w2 := (km.of_drew).trans k2
    refine ⟨_, w.heap.size, w.heap.size + 1, rfl, ⟨?_, ((hE'.keep k2 (fun x => x)).alloc _), hG'.alloc _, ?_, ?_, ?_⟩, ?_, ?_, ?_, hK.alloc _⟩
    · exact alloc_at w2 _ _ (by omega)
    all_goals omega
end Tab
end Go.Proofs.Ytcjdejhjbelggaa
