/- 'xs = append(xs, x)' as one step of a region that draws its order. -/
import Derived.Test.YtnheibcjcgacpaaGreatDoorSlice
import Derived.Deep.RegionLaw
set_option linter.unusedVariables false
set_option linter.unusedSimpArgs false
namespace Go.Proofs.YtnheibcjcgacpaaGreatDoor
section
variable {P : Program}
theorem step_app1 {t e size bytes : Nat} (T : SlT P t e size bytes) (w : World) {ops : Array Oper} {o : Oper} {a : Act} {K : Act → World → Prop} {Q : Exit → Act → World → Prop} {E : Prop} (hgd : o.guard = none) (s x : Operand)
    (ho : o.op = .call { callee := .builtin .append, args := #[s, x], argTypes := #[t, t] }) (v : Value) (n : Nat) (xs : List Value) (hs : a.eval s = v) (hown : Own w e size v n xs)
    (news : List Value) (hx : a.eval x = .slice (some ⟨w.heap.size, 0, none⟩) 1 1) (hl : news.length = size) (h1 : ∀ u ∈ news, u.oneCell' = true) (h63 : n + 1 ≤ maxLen) (hbytes : (n + 1) * bytes ≤ 140737488355328)
    (h : ∀ v' w', Own w' e size v' (n + 1) (xs ++ news) → Keeps (fun b => v.ownBlock = some b) w w' → (v'.ownBlock = v.ownBlock ∨ v'.ownBlock = some (w.heap.size + 1)) → K (a.put o.dst v') w') :
    if Region.wanted o (yielded ops a.tmps) = true then Oper.wp P o a (w.alloc (.cells news.toArray e)) K Q else E := by
  obtain ⟨i, z, hi, hz, h2, h3, h4⟩ := T.info
  have hw : Region.wanted o (yielded ops a.tmps) = true := by simp [Region.wanted, hgd]
  rw [if_pos hw]
  obtain ⟨v', w', hr, r2, hg, hnil, hat⟩ := run_append_own_at (P := P) (w.alloc (.cells news.toArray e)) 0 t o.type e i z size bytes T.ht hi hz h2 h3 h4 T.pos v n xs (hown.alloc _) ⟨w.heap.size, 0, none⟩ 1 1 news (by omega) (cells_new w news e) h1 h63 hbytes (Nat.zero_le _)
  unfold Oper.wp execOp
  simp only [ho, resolve, invoke, builtin, Sem.run_bind, Sem.run_pure, Result.andThen_ok, List.map_toArray, List.map_cons, List.map_nil, hs, hx, hr]
  refine h v' w' r2 ?_ (by simpa using hat)
  refine ⟨hg.os, hg.tape, hg.output, Nat.le_trans (by simp) hg.size, fun b hb hf => ?_⟩
  rw [hg.block b (by simp; omega) (fun e => hf e.symm)]
  show (w.heap.push _)[b]? = _
  rw [Array.getElem?_push, if_neg (by omega)]
end
end Go.Proofs.YtnheibcjcgacpaaGreatDoor
