/- A map of pairs as the kit's owned map: its keys. -/
import Derived.Test.YtcjdejhjbelggaaTabS
import Derived.Test.YtcjdejhjbelggaaTabP
set_option linter.unusedVariables false
set_option linter.unusedSimpArgs false
namespace Go.Proofs.Ytcjdejhjbelggaa
open Go.RowKit Go.ChangeMaps Go.Maps Go.Sort Go.Shelf Go.WideElems
abbrev anyElem (v : Value) : Option (DataW Unit × List MemPlace) := some (.nil, [])
theorem key_int (x : Int) (hx : (Lit.int .i64 x).wf = true) : keyOf Try.prog 3 (.int .i64 x) = some (.int .i64 x) := by
  simp [keyOf, mapKey, Try.underlying3, hx]
theorem owns_of_emap {w : World} {m : Nat} {E : Tab.Prs} (h : EMap (Value.int .i64) w m E) (hk : ∀ p ∈ E, (Lit.int .i64 p.1).wf = true) (hl : E.length ≤ maxLen) :
    ∃ nn, ∃ D0 : DataW Unit, w.ownsMap Try.prog 3 anyElem m nn D0 ∧ (intKeys D0).Perm (keysOf E) ∧ Maps.size D0 = E.length := by
  obtain ⟨es, cl, hb, hs, he⟩ := h
  have hlen : es.size = E.length := by
    have := congrArg List.length he
    simpa [encs] using this
  have hkey : ∀ x ∈ es.toList, ∃ p ∈ E, x.key = .int .i64 p.1 := by
    intro x hx
    have : (x.key, x.val) ∈ es.toList.map (fun e => (e.key, e.val)) := List.mem_map.2 ⟨x, hx, rfl⟩
    rw [he] at this
    obtain ⟨q, hq, e⟩ := List.mem_map.1 this
    obtain ⟨p, hp, rfl⟩ := List.mem_map.1 hq
    simp at e
    exact ⟨p, hp, e.1.symm⟩
  have hrd : ∀ x ∈ es.toList, ∃ p ∈ E, x.key = .int .i64 p.1 ∧ WideElems.rd Try.prog 3 anyElem x = some (.int .i64 p.1, .nil) := by
    intro x hx
    obtain ⟨p, hp, e⟩ := hkey x hx
    refine ⟨p, hp, e, ?_⟩
    unfold WideElems.rd
    rw [e, key_int _ (hk p hp)]
    rfl
  have F : Fit Try.prog 3 anyElem es cl := ⟨by rw [hlen]; exact hl, hs, fun x hx => by obtain ⟨p, _, _, e⟩ := hrd x hx; exact ⟨_, e⟩⟩
  refine ⟨_, _, ⟨es, cl, hb, F, Nat.le_refl _, rfl⟩, ?_, ?_⟩
  · show List.Perm ((List.foldr DataW.insert [] (es.toList.map (WideElems.rg Try.prog 3 anyElem))).map fun p => Go.intOf p.1) _
    refine ((Go.WideShapes.sorted_perm _).map _).trans ?_
    have : (es.toList.map (WideElems.rg Try.prog 3 anyElem)).map (fun p => Go.intOf p.1) = keysOf E := by
      have h1 : es.toList.map (fun e => e.key) = E.map (fun p => Value.int .i64 p.1) := by
        have := congrArg (List.map Prod.fst) he
        simpa [encs, List.map_map, Function.comp_def] using this
      have h2 : (es.toList.map (WideElems.rg Try.prog 3 anyElem)).map (fun p => Go.intOf p.1) = (es.toList.map (fun e => e.key)).map (fun v => match v with | .int _ a => a | _ => 0) := by
        rw [List.map_map, List.map_map]
        refine List.map_congr_left (fun x hx => ?_)
        obtain ⟨p, _, e1, e2⟩ := hrd x hx
        simp only [Function.comp, rg_of e2, e1]
        rfl
      rw [h2, h1, List.map_map]
      rfl
    rw [this]
  · show (List.foldr DataW.insert [] (es.toList.map (WideElems.rg Try.prog 3 anyElem))).length = _
    rw [(Go.WideShapes.sorted_perm _).length_eq, List.length_map]
    exact hlen
end Go.Proofs.Ytcjdejhjbelggaa
