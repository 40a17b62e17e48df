/- The line's Copy. -/
import Derived.Test.YtmlolkjgniodpaaLineE
import Derived.Test.YtmlolkjgniodpaaClone
import Derived.Deep.RegionHeld3
set_option linter.unusedVariables false
set_option linter.unusedSimpArgs false
namespace Go.Proofs.Ytmlolkjgniodpaa
open Go.RowKit Go.ChangeMaps
namespace Line
set_option maxRecDepth 100000 in
set_option maxHeartbeats 2000000 in
theorem copy_any (w : World) (b m : Nat) (E : Nbs) (f l : Int) (h : At w b m E f l) :
    Calls Try.prog 41 #[.pointer (some ⟨b, 0, none⟩)] w fun e w' => e = .returned (.pointer (some ⟨w.heap.size + 1, 0, none⟩)) ∧ At w' (w.heap.size + 1) w.heap.size E f l ∧ Keeps (fun _ => False) w w' := by
  obtain ⟨c0, c1, c2, f1, f2⟩ := h.cells
  have hbl := lt_of h.1
  have hm := h.2.1
  clear h
  unfold EMap IMap at hm
  obtain ⟨es, cl, hb, hs, hl⟩ := hm
  have HB : Hid _ := hb
  have HS : Hid _ := hs
  have HL : Hid _ := hl
  clear hb hs hl
  go_enter Try.func41, Try.ntmps41
  go_wp2
  go_region_held3 (fun wx => wx.cell? ⟨b, 0, none⟩ = some (.map (some m)) ∧ wx.cell? ⟨b, 1, none⟩ = some (.int .i64 f) ∧ wx.cell? ⟨b, 2, none⟩ = some (.int .i64 l))
    (first | go_keep)
    (first | (go_at_call 60; refine (clone_near w.drew m es cl (by exact HB.out)).mono ?_; rintro e w' ⟨rfl, rfl⟩))
  go_wp2
  go_ret
  have hne : m ≠ w.heap.size := by have := lt_of HB.out; omega
  refine ⟨rfl, ⟨?_, ?_, by omega⟩, (((Keeps.refl _ _).alloc _).alloc _).drew⟩
  · exact alloc_at (w.alloc (.map es cl)) _ _ (by simp)
  · have : EMap near (w.alloc (.map es cl)) w.heap.size E := ⟨es, cl, alloc_new _ _, HS.out, HL.out⟩
    exact this.alloc _
theorem rep_copy (w : World) (b m : Nat) (L : List Int) (h : Rep w b m L) :
    Calls Try.prog 41 #[.pointer (some ⟨b, 0, none⟩)] w fun e w' => e = .returned (.pointer (some ⟨w.heap.size + 1, 0, none⟩)) ∧ Rep w' (w.heap.size + 1) w.heap.size L ∧ Keeps (fun _ => False) w w' := by
  obtain ⟨E, f, l, h1, h2⟩ := h
  exact (copy_any w b m E f l h1).mono fun e w' ⟨h3, h4, h5⟩ => ⟨h3, ⟨E, f, l, h4, h2⟩, h5⟩
end Line
end Go.Proofs.Ytmlolkjgniodpaa
