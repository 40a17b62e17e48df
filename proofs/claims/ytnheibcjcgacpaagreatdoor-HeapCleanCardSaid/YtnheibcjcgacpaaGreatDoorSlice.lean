/- Slices that a call has made, read and appended to; a scope whose label is come back to. -/
import Derived.Test.YtnheibcjcgacpaaGreatDoorBase
import Derived.Maps.AppendAt
import Derived.ScopeJumps
import Derived.OwnWalk
import Derived.WalkSpells
set_option linter.unusedVariables false
set_option linter.unusedSimpArgs false
namespace Go.Proofs.YtnheibcjcgacpaaGreatDoor
open Go.RowKit Go.ChangeMaps

section
variable {P : Program} {Q : Exit → Act → World → Prop}
/-- A scope in which the run comes back to one label: what holds there ('J'), with a number that every pass lowers. -/
theorem wp_scope_ghost {c rest : Code} {a : Act} {w : World} (l : Nat) (J : Nat → Act → World → Prop) (hf : findLabel c l = some rest)
    (first : c.wp P (Exit.jump l (fun a' w' => ∃ n, J n a' w') Q) a w)
    (pass : ∀ n a w, J n a w → rest.wp P (Exit.jump l (fun a' w' => ∃ n', n' < n ∧ J n' a' w') Q) a w) : (Code.scope c).wp P Q a w := by
  intro b k cs
  have hg : gotoIn l (.inScope c :: k) = some (.code rest :: .inScope c :: k) := by simp [gotoIn, hf]
  have key : ∀ n a w, J n a w → ∃ e a' w', Q e a' w' ∧ Arrives P (lone (b.at a (.code rest :: .inScope c :: k)) cs w) b k cs e a' w' := by
    intro n
    induction n using Nat.strongRecOn with
    | _ n ih =>
      intro a w hJ
      obtain ⟨e, a₁, w₁, hq, harr⟩ := pass n a w hJ b (.inScope c :: k) cs
      cases e with
      | normal => exact ⟨.normal, a₁, w₁, hq, Steps.trans harr (.one step_inScope)⟩
      | exit id => exact ⟨.exit id, a₁, w₁, hq, fun k' hk => harr k' (by simp [exitTo, hk])⟩
      | goto l' =>
        obtain ⟨rfl, n', hlt, hJ'⟩ := hq
        obtain ⟨e₂, a₂, w₂, hq₂, harr₂⟩ := ih n' hlt a₁ w₁ hJ'
        exact ⟨e₂, a₂, w₂, hq₂, .of_steps (harr _ hg) harr₂⟩
      | ret => exact ⟨_, a₁, w₁, hq, harr⟩
      | panic ch => exact ⟨_, a₁, w₁, hq, harr⟩
      | outgrown => exact ⟨_, a₁, w₁, hq, harr⟩
  obtain ⟨e, a₁, w₁, hq, harr⟩ := first b (.inScope c :: k) cs
  cases e with
  | normal => exact ⟨.normal, a₁, w₁, hq, .head step_scope (Steps.trans harr (.one step_inScope))⟩
  | exit id => exact ⟨.exit id, a₁, w₁, hq, fun k' hk => .head step_scope (harr k' (by simp [exitTo, hk]))⟩
  | goto l' =>
    obtain ⟨rfl, n', hJ'⟩ := hq
    obtain ⟨e₂, a₂, w₂, hq₂, harr₂⟩ := key n' a₁ w₁ hJ'
    exact ⟨e₂, a₂, w₂, hq₂, .of_steps (.head step_scope (harr _ hg)) harr₂⟩
  | ret => exact ⟨_, a₁, w₁, hq, .of_steps (.one step_scope) harr⟩
  | panic ch => exact ⟨_, a₁, w₁, hq, .of_steps (.one step_scope) harr⟩
  | outgrown => exact ⟨_, a₁, w₁, hq, .of_steps (.one step_scope) harr⟩
theorem Exit.jump_mono {l : Nat} {J J' : Act → World → Prop} (h : ∀ a w, J a w → J' a w) (e : Exit) (a : Act) (w : World) (hq : Exit.jump l J Q e a w) : Exit.jump l J' Q e a w := by
  cases e with
  | goto l' => exact ⟨hq.1, h a w hq.2⟩
  | _ => exact hq
/-- .. where the first pass may use, at the label itself, what is shown of every pass. -/
theorem wp_scope_once {c body : Code} {a : Act} {w : World} (l : Nat) (J : Nat → Act → World → Prop) (hf : findLabel c l = some (Code.skip.seq body))
    (pass : ∀ n a w, J n a w → body.wp P (Exit.jump l (fun a' w' => ∃ n', n' < n ∧ J n' a' w') Q) a w)
    (first : (∀ n a w, J n a w → body.wp P (Exit.jump l (fun a' w' => ∃ n, J n a' w') Q) a w) → c.wp P (Exit.jump l (fun a' w' => ∃ n, J n a' w') Q) a w) : (Code.scope c).wp P Q a w :=
  wp_scope_ghost l J hf (first fun n a w hJ => wp_mono (pass n a w hJ) (fun e a w hq => Exit.jump_mono (fun a w ⟨n', _, h⟩ => ⟨n', h⟩) e a w hq))
    (fun n a w hJ => wp_seq (wp_skip (pass n a w hJ)))
end

/-- A slice type of the table: its element type, the element's cells and bytes. -/
structure SlT (P : Program) (t e size bytes : Nat) : Prop where
  ht : P.underlying t = some (.slice e)
  info : ∃ i z, P.info? e = some i ∧ i.zero = some z ∧ i.size = size ∧ i.bytes = bytes ∧ z.cells.size = size
  pos : 0 < size
theorem SlT.mk' {P : Program} {t e size bytes : Nat} {z : Value} (ht : P.underlying t = some (.slice e)) (h : (P.info? e).map (fun i => (i.zero, i.size, i.bytes)) = some (some z, size, bytes)) (hz : z.cells.size = size) (pos : 0 < size) : SlT P t e size bytes := by
  obtain ⟨i, hi, h0, h1, h2⟩ := info_parts h
  exact ⟨ht, ⟨i, z, hi, h0, h1, h2, hz⟩, pos⟩

/-- A slice value that holds these cells, in a row of its own (or it is nil). -/
def Own (w : World) (e size : Nat) (v : Value) (n : Nat) (xs : List Value) : Prop := w.ownsRow 0 e size v n xs
theorem Own.nil (w : World) (e size : Nat) : Own w e size (.slice none 0 0) 0 [] := World.ownsRow_nil _ _ _ _
theorem Own.same {w w' : World} {e size : Nat} {v : Value} {n : Nat} {xs : List Value} (h : Own w e size v n xs) (hb : ∀ g, v.ownBlock = some g → w'.heap[g]? = w.heap[g]?) : Own w' e size v n xs := by
  obtain ⟨h1, h2⟩ := h
  refine ⟨h1, ?_⟩
  rcases h2 with h2 | ⟨g, cap, cur, hv, hg, hh, r⟩
  · exact .inl h2
  · exact .inr ⟨g, cap, cur, hv, hg, by rw [hb g (by rw [hv]; rfl)]; exact hh, r⟩
theorem Own.lt {w : World} {e size : Nat} {v : Value} {n : Nat} {xs : List Value} (h : Own w e size v n xs) {g : Nat} (hg : v.ownBlock = some g) : g < w.heap.size := by
  obtain ⟨h1, h2⟩ := h
  rcases h2 with ⟨h2, _⟩ | ⟨g', cap, cur, hv, _, hh, r⟩
  · rw [h2] at hg; cases hg
  · rw [hv] at hg; cases hg; exact lt_of hh
theorem Own.keep {F : Nat → Prop} {w w' : World} {e size : Nat} {v : Value} {n : Nat} {xs : List Value} (h : Own w e size v n xs) (hk : Keeps F w w') (hf : ∀ g, v.ownBlock = some g → ¬ F g) : Own w' e size v n xs :=
  h.same fun g hg => hk.block g (h.lt hg) (hf g hg)
theorem Own.alloc {w : World} {e size : Nat} {v : Value} {n : Nat} {xs : List Value} (h : Own w e size v n xs) (o : Obj) : Own (w.alloc o) e size v n xs :=
  h.keep ((Keeps.refl (fun _ => False) w).alloc o) (fun _ _ x => x)
theorem Own.drew {w : World} {e size : Nat} {v : Value} {n : Nat} {xs : List Value} (h : Own w e size v n xs) : Own w.drew e size v n xs := h
theorem Own.drewN {w : World} {e size : Nat} {v : Value} {n : Nat} {xs : List Value} (h : Own w e size v n xs) (k : Nat) : Own (w.drewN k) e size v n xs := h
theorem Own.setCell {w : World} {e size : Nat} {v : Value} {n : Nat} {xs : List Value} (h : Own w e size v n xs) (a : Addr) (u : Value) (hne : v.ownBlock ≠ some a.block) : Own (w.setCell a u) e size v n xs :=
  h.same fun g hg => set_other a u (by rintro rfl; exact hne hg)
/-- Its shape. -/
theorem Own.shape {w : World} {e size : Nat} {v : Value} {n : Nat} {xs : List Value} (h : Own w e size v n xs) : ∃ A cap, v = .slice A n cap ∧ n ≤ cap ∧ (A = none → n = 0) ∧ (∀ j, j < n * size → ∃ g, A = some ⟨g, 0, none⟩ ∧ v.ownBlock = some g ∧ w.cell? ⟨g, j, none⟩ = xs[j]?) := by
  obtain ⟨h1, h2⟩ := h
  rcases h2 with ⟨h2, rfl⟩ | ⟨g, cap, cur, hv, hg, hh, hc, hcm, hs, ht⟩
  · exact ⟨none, 0, h2, Nat.le_refl _, fun _ => rfl, fun j hj => by omega⟩
  · refine ⟨some ⟨g, 0, none⟩, cap, hv, hc, by simp, fun j hj => ⟨g, rfl, by rw [hv]; rfl, ?_⟩⟩
    rw [← ht]
    simp only [World.cell?, hh, List.getElem?_take, if_pos hj]
    simp
theorem Own.length {w : World} {e size : Nat} {v : Value} {n : Nat} {xs : List Value} (h : Own w e size v n xs) : xs.length = n * size := h.1
theorem Own.maxLen {w : World} {e size : Nat} {v : Value} {n : Nat} {xs : List Value} (h : Own w e size v n xs) : n ≤ maxLen := by
  obtain ⟨h1, h2⟩ := h
  rcases h2 with ⟨h2, rfl⟩ | ⟨g, cap, cur, hv, hg, hh, hc, hcm, hs, ht⟩
  · exact Nat.zero_le _
  · exact Nat.le_trans hc hcm

theorem cells_new (w : World) (xs : List Value) (t : TypeId) : ∀ j u, xs[j]? = some u → (w.alloc (.cells xs.toArray t)).cell? ((⟨w.heap.size, 0, none⟩ : Addr).add j) = some u := by
  intro j u hj
  have : (⟨w.heap.size, 0, none⟩ : Addr).add j = ⟨w.heap.size, j, none⟩ := by
    unfold Addr.add
    split
    · rename_i h; subst h; rfl
    · simp
  rw [this]
  exact cell_of (alloc_new w _) j (by simpa using hj)

section
variable {P : Program}
/-- 'xs = append(xs, x)', the one new element laid in a block of its own just before. -/
theorem wpList_app1 {t e size bytes : Nat} (T : SlT P t e size bytes) (w : World) {ops : Array Oper} {rest : List Oper} {o : Oper} {a : Act} {Q : Exit → Act → World → Prop} (hgd : o.guard = none) (s x : Operand)
    (ho : o.op = .call { callee := .builtin .append, args := #[s, x], argTypes := #[t, t] }) (v : Value) (n : Nat) (xs : List Value) (hs : a.eval s = v) (hown : Own w e size v n xs)
    (news : List Value) (hx : a.eval x = .slice (some ⟨w.heap.size, 0, none⟩) 1 1) (hl : news.length = size) (h1 : ∀ u ∈ news, u.oneCell' = true) (h63 : n + 1 ≤ maxLen) (hbytes : (n + 1) * bytes ≤ 140737488355328)
    (h : ∀ v' w', Own w' e size v' (n + 1) (xs ++ news) → Keeps (fun b => v.ownBlock = some b) w w' → (v'.ownBlock = v.ownBlock ∨ v'.ownBlock = some (w.heap.size + 1)) → wpList P ops Q rest (a.put o.dst v') w') :
    wpList P ops Q (o :: rest) a (w.alloc (.cells news.toArray e)) := by
  obtain ⟨i, z, hi, hz, h2, h3, h4⟩ := T.info
  refine wpList_append_own_at (w.alloc (.cells news.toArray e)) hgd s x t ho 0 e i z size bytes T.ht hi hz h2 h3 h4 T.pos v n xs hs (hown.alloc _) ⟨w.heap.size, 0, none⟩ 1 1 news hx (by omega) (cells_new w news e) h1 h63 hbytes (Nat.zero_le _) ?_
  intro v' w' hown' hg hnil hat
  refine h v' w' hown' ?_ (by simpa using hat)
  refine ⟨hg.os, hg.tape, hg.output, Nat.le_trans (by simp) hg.size, fun b hb hf => ?_⟩
  rw [hg.block b (by simp; omega) (fun e => hf e.symm)]
  show (w.heap.push _)[b]? = _
  rw [Array.getElem?_push, if_neg (by omega)]
end
end Go.Proofs.YtnheibcjcgacpaaGreatDoor
