/- What the walk of the tape's step and the document's reading share. -/
import Derived.Test.YtmlolkjgniodpaaScrC
import Derived.WalkMore
set_option linter.unusedVariables false
set_option linter.unusedSimpArgs false
namespace Go.Proofs.Ytmlolkjgniodpaa
open Go.RowKit Go.ChangeMaps
@[go_sem] theorem bs_toList (l : Bs) : (bs l).toList = l := by
  unfold bs
  rw [ByteArray.toList_eq]
/-- A label that is jumped to, forward, and never come back to: what stands behind it is walked at each jump. -/
theorem wp_scope_fwd {P : Program} {Q : Exit → Act → World → Prop} {c body : Code} {a : Act} {w : World} (l : Nat) (hf : findLabel c l = some (Code.skip.seq body))
    (first : c.wp P (Exit.jump l (fun a' w' => body.wp P (Exit.jump l (fun _ _ => False) Q) a' w') Q) a w) : (Code.scope c).wp P Q a w :=
  wp_scope_once l (fun _ a w => body.wp P (Exit.jump l (fun _ _ => False) Q) a w) hf
    (fun n a w hJ => wp_mono hJ (fun e a w hq => Exit.jump_mono (fun a w h => h.elim) e a w hq))
    (fun _ => wp_mono first (fun e a w hq => Exit.jump_mono (fun a w h => ⟨0, h⟩) e a w hq))
namespace Scr
def Stp.val (s : Stp) : Value := .agg #[.int .i64 s.kind, .int .i64 s.tenant, .int .i64 s.n, .int .i64 s.m, .int .u64 s.handle, .string (bs s.data), .int .i64 s.back]
theorem tone_rest (t : Tp) : (tone t).2.rest.length ≤ t.rest.length := tb_rest 1 t
theorem tnum_rest (t : Tp) : (tnum t).2.rest.length ≤ t.rest.length := tb_rest 2 t
theorem thand_rest (t : Tp) : (thand t).2.rest.length ≤ t.rest.length := by
  unfold thand
  split
  · exact tone_rest t
  · exact Nat.le_trans (tb_rest 8 _) (tone_rest t)
theorem ttext_rest (t : Tp) : (ttext t).2.rest.length ≤ t.rest.length := by
  unfold ttext
  split
  · exact tone_rest t
  · exact Nat.le_trans (tb_rest _ _) (tone_rest t)
theorem tstep_of (t : Tp) (k : Int) (h : t.rest ≠ []) (hk : (tone t).1 % 16 = k) : tstep t =
    if (tail2 k (tail1 k (tone (tone t).2).2).2).2.short then ((zero, false), (tail2 k (tail1 k (tone (tone t).2).2).2).2)
    else ((⟨k, (tone (tone t).2).1, (tail2 k (tail1 k (tone (tone t).2).2).2).1.1, (tail2 k (tail1 k (tone (tone t).2).2).2).1.2.1, (tail1 k (tone (tone t).2).2).1.2, (tail2 k (tail1 k (tone (tone t).2).2).2).1.2.2, (tail1 k (tone (tone t).2).2).1.1⟩, true), (tail2 k (tail1 k (tone (tone t).2).2).2).2) := by
  have e1 : tkind t = k := hk
  have e2 : tten t = (tone (tone t).2).1 := rfl
  have e3 : th t = tail1 k (tone (tone t).2).2 := by unfold th; rw [e1]
  have e4 : tl t = tail2 k (tail1 k (tone (tone t).2).2).2 := by unfold tl; rw [e1, e3]
  unfold tstep
  rw [if_neg h, e4, e1, e2, e3]
theorem XAt.all {w : World} {b : Nat} {s : Stp} (h : XAt w b s) : w.cell? ⟨b, 0, none⟩ = some (.int .i64 s.kind) ∧ w.cell? ⟨b, 1, none⟩ = some (.int .i64 s.tenant) ∧ w.cell? ⟨b, 2, none⟩ = some (.int .i64 s.n) ∧ w.cell? ⟨b, 3, none⟩ = some (.int .i64 s.m) ∧
    w.cell? ⟨b, 4, none⟩ = some (.int .u64 s.handle) ∧ w.cell? ⟨b, 5, none⟩ = some (.string (bs s.data)) ∧ w.cell? ⟨b, 6, none⟩ = some (.int .i64 s.back) :=
  ⟨cell_of h 0 rfl, cell_of h 1 rfl, cell_of h 2 rfl, cell_of h 3 rfl, cell_of h 4 rfl, cell_of h 5 rfl, cell_of h 6 rfl⟩
def stored (w : World) (b : Nat) (s : Stp) : World := (((((((w.setCell ⟨b, 0, none⟩ (.int .i64 s.kind)).setCell ⟨b, 1, none⟩ (.int .i64 s.tenant)).setCell ⟨b, 2, none⟩ (.int .i64 s.n)).setCell ⟨b, 3, none⟩ (.int .i64 s.m)).setCell ⟨b, 4, none⟩ (.int .u64 s.handle)).setCell ⟨b, 5, none⟩ (.string (bs s.data))).setCell ⟨b, 6, none⟩ (.int .i64 s.back))
theorem XAt.store {w : World} {b : Nat} {s : Stp} (h : XAt w b s) (s' : Stp) : XAt (stored w b s') b s' :=
  ((((((h.set_kind s'.kind).set_tenant s'.tenant).set_n s'.n).set_m s'.m).set_handle s'.handle).set_data s'.data).set_back s'.back
theorem ksets (w : World) (b : Nat) (s : Stp) : Keeps (fun x => x = b) w (stored w b s) :=
  ((((((kset w b 0 _).trans (kset _ b 1 _)).trans (kset _ b 2 _)).trans (kset _ b 3 _)).trans (kset _ b 4 _)).trans (kset _ b 5 _)).trans (kset _ b 6 _)
theorem XAt.free {w : World} {b : Nat} {s : Stp} (h : XAt w b s) : w.frozen? ⟨b, 0, none⟩ = false ∧ w.frozen? ⟨b, 1, none⟩ = false ∧ w.frozen? ⟨b, 2, none⟩ = false ∧ w.frozen? ⟨b, 3, none⟩ = false ∧
    w.frozen? ⟨b, 4, none⟩ = false ∧ w.frozen? ⟨b, 5, none⟩ = false ∧ w.frozen? ⟨b, 6, none⟩ = false :=
  ⟨free_of h 0, free_of h 1, free_of h 2, free_of h 3, free_of h 4, free_of h 5, free_of h 6⟩
theorem _root_.Go.Proofs.Ytmlolkjgniodpaa.Keeps.two {b xb : Nat} {w a c d : World} (h : Keeps (fun x => x = b) w a) (k : Keeps (fun x => x = b) a c) (k2 : Keeps (fun x => x = xb) c d) (_ : 0 = 0) (hx : w.heap.size = xb) : Keeps (fun x => x = b) w d :=
  (h.trans k).trans' k2 (fun x e hl => by omega)
end Scr
end Go.Proofs.Ytmlolkjgniodpaa
