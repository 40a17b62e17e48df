/- The model package's walk: next. -/
import Derived.Test.YtagmkkddjdlncaaDoorMoE
set_option linter.unusedVariables false
set_option linter.unusedSimpArgs false
namespace Go.Proofs.YtagmkkddjdlncaaDoor
open Go.RowKit Go.ChangeMaps
namespace Mo
/-- A part's cells: its handles, colours, quota, peak, objects, how many there were. -/
def pcells (c : Nat) (k q t : Int) (ob : Nat) (n : Int) : Array Value := #[.pointer (some ⟨c, 0, none⟩), .int .i64 k, .int .i64 q, .int .i64 t, .map (some ob), .int .i64 n]
def next (l : List (Int × Value)) (t q : Int) : Int := if l.length = 0 then q else max q t
set_option maxRecDepth 100000 in
set_option maxHeartbeats 1000000 in
theorem next_any (w : World) (b c ob : Nat) (k q t n z : Int) (l : List (Int × Value)) (H : w.heap[b]? = some (.cells (pcells c k q t ob n) 58 (0, 0))) (hm : IMap w ob l) (hl : l.length ≤ 1000000000) :
    Calls Tryd.prog 30 #[.pointer (some ⟨b, 0, none⟩), .int .i64 z] w fun e w' => e = .returned (.int .i64 (next l t z)) ∧ w = w' := by
  have c4 := cell_of (v := .map (some ob)) H 4 rfl
  have c3 := cell_of (v := .int .i64 t) H 3 rfl
  have hlen := hm.len (P := Tryd.prog) (ty := 3) Tryd.underlying56
  have hmax := fun ts ty w => run_max_int (P := Tryd.prog) ts ty z t w
  unfold next
  obtain ⟨y, hy⟩ : ∃ y, l.length = y := ⟨_, rfl⟩
  rw [hy] at hlen ⊢
  have hM : (if z < t then t else z) = max z t := by split <;> omega
  rw [hM] at hmax
  generalize max z t = M at *
  clear H hm
  by_cases h : y = 0
  · rw [if_pos h]
    have t0 : ((y : Int) == 0) = true := by simp; omega
    clear h hM
    go_enter Tryd.func30, Tryd.ntmps30
    go_wp2
    go_ret
    exact ⟨rfl, rfl⟩
  · rw [if_neg h]
    have t0 : ((y : Int) == 0) = false := by simp; omega
    clear h hM
    go_enter Tryd.func30, Tryd.ntmps30
    go_wp2
    go_ret
    exact ⟨rfl, rfl⟩
end Mo
end Go.Proofs.YtagmkkddjdlncaaDoor
