/- TablePlays: the table and the document's table, side by side. -/
import Derived.Test.YtcjdejhjbelggaaRTabQ
import Derived.Test.YtcjdejhjbelggaaTabT
set_option linter.unusedVariables false
set_option linter.unusedSimpArgs false
namespace Go.Proofs.Ytcjdejhjbelggaa
open Go.RowKit Go.ChangeMaps
namespace RTab
/-- Both tables stand for the same pairs; their blocks are apart, and from B on. -/
structure Both (B : Nat) (w : World) (b m n rb : Nat) (v : Value) (E G L : Tab.Prs) : Prop where
  tb : Tab.Tb B w b m n E G
  ref : At w rb v L
  rl : Rl L E
  hr : B ≤ rb
  hd : rb ≠ b ∧ rb ≠ m ∧ rb ≠ n
  hv : ∀ g, v.ownBlock = some g → B ≤ g ∧ g ≠ b ∧ g ≠ m ∧ g ≠ n
theorem Both.old {B : Nat} {w w' : World} {b m n rb : Nat} {v : Value} {E G L : Tab.Prs} (h : Both B w b m n rb v E G L) (k : Keeps (fun _ => False) w w') : Both B w' b m n rb v E G L :=
  ⟨h.tb.old k, h.ref.old k, h.rl, h.hr, h.hd, h.hv⟩
theorem Both.lt {B : Nat} {w : World} {b m n rb : Nat} {v : Value} {E G L : Tab.Prs} (h : Both B w b m n rb v E G L) : b < w.heap.size ∧ m < w.heap.size ∧ n < w.heap.size ∧ rb < w.heap.size ∧ ∀ g, v.ownBlock = some g → g < w.heap.size :=
  ⟨h.tb.1.lt.1, h.tb.1.lt.2.1, h.tb.1.lt.2.2, lt_of h.ref.1, fun g hg => h.ref.2.1.lt hg⟩
/-- The table goes on; the document's stands. -/
theorem Both.left {B : Nat} {w w' : World} {b m n rb : Nat} {v : Value} {E G L : Tab.Prs} (h : Both B w b m n rb v E G L) (k : Keeps (fun x => x = m ∨ x = n) w w') : At w' rb v L :=
  h.ref.keep k (by have := h.hd; omega) (fun g hg => by have := h.hv g hg; omega)
theorem both_mk {B : Nat} {w w1 w2 : World} {b m n rb : Nat} {v : Value} {E G L E' G' L' : Tab.Prs} (h : Both B w b m n rb v E G L) (k1 : Keeps (fun x => x = m ∨ x = n) w w1) (ht : Tab.Tb B w1 b m n E' G') (k2 : Keeps (fun x => x = rb ∨ v.ownBlock = some x) w1 w2)
    (h2 : ∃ v', At w2 rb v' L' ∧ (v'.ownBlock = v.ownBlock ∨ ∀ g, v'.ownBlock = some g → w1.heap.size ≤ g)) (hr : Rl L' E') (hB : B ≤ w.heap.size) : ∃ v', Both B w2 b m n rb v' E' G' L' ∧ Keeps (fun x => B ≤ x) w w2 := by
  obtain ⟨v', h3, h4⟩ := h2
  have hlt := ht.1.lt
  have h1s := k1.size
  have hd := h.hd
  have hbs := ht.2.2
  refine ⟨v', ⟨⟨ht.1.keep k2 ?_ ?_ ?_, ht.2⟩, h3, hr, h.hr, h.hd, fun g hg => ?_⟩, ?_⟩
  · rintro (e | e)
    · omega
    · exact (h.hv _ e).2.1 rfl
  · rintro (e | e)
    · omega
    · exact (h.hv _ e).2.2.1 rfl
  · rintro (e | e)
    · omega
    · exact (h.hv _ e).2.2.2 rfl
  · rcases h4 with e | e
    · exact h.hv g (by rw [← e]; exact hg)
    · have := e g hg; omega
  · refine (k1.mono (fun x _ hx => ?_)).trans' k2 (fun x hx _ => ?_)
    · rcases hx with rfl | rfl <;> omega
    · rcases hx with rfl | hx
      · exact h.hr
      · exact (h.hv x hx).1
theorem map_len (L : Tab.Prs) (k p : Int) : (if mapCode L k p = 0 then ins L k p else L).length ≤ L.length + 1 := by
  split
  · unfold ins insL; rw [List.length_append, List.length_cons, List.length_take, List.length_drop]; omega
  · omega
theorem un_len (L : Tab.Prs) (k : Int) : (if byV L k < 0 then L else del L k).length ≤ L.length + 1 := by
  split
  · omega
  · have := List.length_filter_le (fun q : Int × Int => !(q.1 == k)) L; unfold del; omega
theorem sw_len (L : Tab.Prs) (k p : Int) : (if (swCode L k p).2 = 0 then swL L k p else L).length ≤ L.length + 1 := by
  split
  · unfold swL; rw [List.length_map]; omega
  · omega
end RTab
end Go.Proofs.Ytcjdejhjbelggaa
