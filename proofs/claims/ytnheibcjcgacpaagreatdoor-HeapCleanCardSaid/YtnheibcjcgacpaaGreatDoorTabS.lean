/- (Exploring: stands on XSortLay.) The table's All: its keys, sorted. | A map of pairs as the kit's owned map: its keys. | The table's All: its local pages, rising. -/
import Derived.Test.YtnheibcjcgacpaaGreatDoorTabA
import Derived.Test.YtnheibcjcgacpaaGreatDoorSortLay
set_option linter.unusedVariables false
set_option linter.unusedSimpArgs false
/-! (Exploring: stands on XSortLay.) The table's All: its keys, sorted. -/
namespace Go.Proofs.YtnheibcjcgacpaaGreatDoor
open Go.RowKit Go.ChangeMaps Go.Maps Go.Sort Go.Shelf
theorem sortsA (m : Nat) : AnyZI.SortsIn Tryz.prog Tryz.sortedA_ren Fence.wide m :=
  ⟨fun blk off cap ss W hH hblk hsz => callsIn_wide.2 (AnyM.slices_Sort_int Tryz.sortA blk off cap ss W hH hblk hsz),
   fun p cap W => callsIn_wide.2 (AnyM.slices_Sort_int_none Tryz.sortA p cap W)⟩
theorem keysIn (mb : Option Nat) (W : World) : CallsIn Fence.wide 5 Tryz.prog 103 #[.map mb] W fun e w' => e = .returned (.func (.func 198) #[] #[.pointer (some ⟨W.heap.size, 0, none⟩)]) ∧ w' = W.alloc (.cells #[.map mb] 168) := AnyZI.keys_in Tryz.keysA Fence.wide 5 trivial rfl mb W
set_option maxHeartbeats 1000000 in
theorem sortedIn {H : Type} (b nn : Nat) (D0 : DataW H) (R : Value → Option (DataW H × List MemPlace)) (w : World) (hown : w.ownsMap Tryz.prog 3 R b nn D0) (hmax : Maps.size D0 ≤ maxLen) (hbytes : Maps.size D0 * 8 ≤ 140737488355328) :
    CallsIn Fence.wide 5 Tryz.prog 102 #[.func (.func 198) #[] #[.pointer (some ⟨w.heap.size, 0, none⟩)]] (w.alloc (.cells #[.map (some b)] 168)) fun e w' => ∃ (v : Value) (ss : List Int), e = .returned v ∧ ss.Perm (intKeys D0) ∧
      w'.ownsRow (w.heap.size + 1) 3 1 v ss.length ((ss.mergeSort (fun x y => decide (x ≤ y))).map encZ) ∧ (v = .slice none 0 0 ↔ ss = []) ∧ Below (w.heap.size + 1) (w.alloc (.cells #[.map (some b)] 168)) w' := by
  have hbl := hown.lt
  have hseq : SeqGives Fence.wide 2 Tryz.prog 198 #[.pointer (some ⟨w.heap.size, 0, none⟩)] encZ (fun ss => ss.Perm (intKeys D0)) (Maps.size D0) (w.alloc (.cells #[.map (some b)] 168)) :=
    AnyZI.keys_gives (ρ := Tryz.keysA_ren) { Tryz.keysA with } Fence.wide _ trivial rfl (by omega) w.heap.size b nn D0 _ (by simp) (by simp) (by
      obtain ⟨es, clock, hb, Ft, hs, hD⟩ := hown
      exact ⟨es, clock, (Below.heap_alloc _ _ b hbl).trans hb, Ft, hs, hD⟩)
  have cS := AnyZI.sorted_in Tryz.sortedA Fence.wide 5 trivial trivial trivial trivial rfl (by omega) (sortsA _) (enters_of Tryz.func197 (by kernel_rfl) rfl) 198 #[.pointer (some ⟨w.heap.size, 0, none⟩)] trivial (enters_of Tryz.func198 (by kernel_rfl) rfl) _ _ hmax hbytes _ hseq
  simp only [World.size_alloc] at cS
  exact cS
end Go.Proofs.YtnheibcjcgacpaaGreatDoor

/-! A map of pairs as the kit's owned map: its keys. -/
namespace Go.Proofs.YtnheibcjcgacpaaGreatDoor
open Go.RowKit Go.ChangeMaps Go.Maps Go.Sort Go.Shelf Go.WideElems
abbrev anyElem (v : Value) : Option (DataW Unit × List MemPlace) := some (.nil, [])
theorem key_int (x : Int) (hx : (Lit.int .i64 x).wf = true) : keyOf Tryz.prog 3 (.int .i64 x) = some (.int .i64 x) := by
  simp [keyOf, mapKey, Tryz.underlying3, hx]
set_option maxRecDepth 100000 in
theorem owns_of_emap {w : World} {m : Nat} {E : Tab.Prs} (h : EMap (Value.int .i64) w m E) (hk : ∀ p ∈ E, (Lit.int .i64 p.1).wf = true) (hl : E.length ≤ maxLen) :
    ∃ nn, ∃ D0 : DataW Unit, w.ownsMap Tryz.prog 3 anyElem m nn D0 ∧ (intKeys D0).Perm (keysOf E) ∧ Maps.size D0 = E.length := by
  obtain ⟨es, cl, hb, hs, he⟩ := h
  have hlen : es.size = E.length := by
    have := congrArg List.length he
    simpa [encs] using this
  have hkey : ∀ x ∈ es.toList, ∃ p ∈ E, x.key = .int .i64 p.1 := by
    intro x hx
    have : (x.key, x.val) ∈ es.toList.map (fun e => (e.key, e.val)) := List.mem_map.2 ⟨x, hx, rfl⟩
    rw [he] at this
    obtain ⟨q, hq, e⟩ := List.mem_map.1 this
    obtain ⟨p, hp, rfl⟩ := List.mem_map.1 hq
    simp at e
    exact ⟨p, hp, e.1.symm⟩
  have hrd : ∀ x ∈ es.toList, ∃ p ∈ E, x.key = .int .i64 p.1 ∧ WideElems.rd Tryz.prog 3 anyElem x = some (.int .i64 p.1, .nil) := by
    intro x hx
    obtain ⟨p, hp, e⟩ := hkey x hx
    refine ⟨p, hp, e, ?_⟩
    unfold WideElems.rd
    rw [e, key_int _ (hk p hp)]
    rfl
  have F : Fit Tryz.prog 3 anyElem es cl := ⟨by rw [hlen]; exact hl, hs, fun x hx => by obtain ⟨p, _, _, e⟩ := hrd x hx; exact ⟨_, e⟩⟩
  refine ⟨_, _, ⟨es, cl, hb, F, Nat.le_refl _, rfl⟩, ?_, ?_⟩
  · show List.Perm ((List.foldr DataW.insert [] (es.toList.map (WideElems.rg Tryz.prog 3 anyElem))).map fun p => Go.intOf p.1) _
    refine ((Go.WideShapes.sorted_perm _).map _).trans ?_
    have : (es.toList.map (WideElems.rg Tryz.prog 3 anyElem)).map (fun p => Go.intOf p.1) = keysOf E := by
      have h1 : es.toList.map (fun e => e.key) = E.map (fun p => Value.int .i64 p.1) := by
        have := congrArg (List.map Prod.fst) he
        simpa [encs, List.map_map, Function.comp_def] using this
      have h2 : (es.toList.map (WideElems.rg Tryz.prog 3 anyElem)).map (fun p => Go.intOf p.1) = (es.toList.map (fun e => e.key)).map (fun v => match v with | .int _ a => a | _ => 0) := by
        rw [List.map_map, List.map_map]
        refine List.map_congr_left (fun x hx => ?_)
        obtain ⟨p, _, e1, e2⟩ := hrd x hx
        simp only [Function.comp, rg_of e2, e1]
        rfl
      rw [h2, h1, List.map_map]
      rfl
    rw [this]
  · show (List.foldr DataW.insert [] (es.toList.map (WideElems.rg Tryz.prog 3 anyElem))).length = _
    rw [(Go.WideShapes.sorted_perm _).length_eq, List.length_map]
    exact hlen
end Go.Proofs.YtnheibcjcgacpaaGreatDoor

/-! The table's All: its local pages, rising. -/
namespace Go.Proofs.YtnheibcjcgacpaaGreatDoor
open Go.RowKit Go.ChangeMaps Go.Maps Go.Sort Go.Shelf Go.WideElems
namespace Tab
def sortedKeys (E : Prs) : List Int := (keysOf E).mergeSort (fun x y => decide (x ≤ y))
theorem sortedKeys_len (E : Prs) : (sortedKeys E).length = E.length := by unfold sortedKeys; rw [List.length_mergeSort, length_keysOf]
set_option maxRecDepth 100000 in
set_option maxHeartbeats 1000000 in
theorem all_any (w : World) (b m n : Nat) (E G : Prs) (h : At w b m n E G) (hi : Inv E G) (hl : E.length ≤ 1000000) :
    Calls Tryz.prog 27 #[.pointer (some ⟨b, 0, none⟩)] w fun e w' => ∃ v, e = .returned v ∧ Own w' 3 1 v E.length (ints (sortedKeys E)) ∧ (∀ g, v.ownBlock = some g → w.heap.size ≤ g) ∧ Keeps (fun _ => False) w w' := by
  obtain ⟨c0, c1⟩ := h.cells
  have hk : ∀ p ∈ E, (Lit.int .i64 p.1).wf = true := by
    intro p hp
    have hs : (eget E p.1).isSome = true := by
      rw [eget_isSome]; exact List.find?_isSome.2 ⟨p, hp, by simp⟩
    cases e : eget E p.1 with
    | none => rw [e] at hs; simp at hs
    | some q =>
      have := hi.ab _ _ e
      simp only [Lit.wf, Bool.and_eq_true, decide_eq_true_eq]
      have a1 : IntKind.i64.min = -9223372036854775808 := rfl
      have a2 : IntKind.i64.max = 9223372036854775807 := rfl
      omega
  obtain ⟨nn, D0, hown, hperm, hsize⟩ := owns_of_emap h.2.1 hk (by unfold maxLen; omega)
  have cS := sortedIn m nn D0 anyElem w hown (by rw [hsize]; unfold maxLen; omega) (by rw [hsize]; omega)
  have cK := keysIn
  clear h hown
  refine (callsIn_wide (n := 6)).1 ?_
  have hfK : Fence.wide.fn 103 := trivial
  have hfS : Fence.wide.fn 102 := trivial
  refine callsIn_of_wp Tryz.func27 rfl trivial ?_ rfl
  simp only [Tryz.ntmps27, List.size_toArray, List.length_cons, List.length_nil, Nat.reduceAdd, Nat.reduceSub, Array.replicate_succ, Array.replicate_zero, List.push_toArray, List.append_toArray, List.nil_append, List.cons_append]
  gi_wp2_with (first
    | (gi_at_call 103; refine (cK _ _).mono ?_; rintro e w' ⟨rfl, rfl⟩)
    | (gi_at_call 102; refine cS.mono ?_; rintro e w' ⟨v, ss, rfl, hS, hrow, hnil, hb⟩))
  go_ret
  have hss : ss.mergeSort (fun x y => decide (x ≤ y)) = sortedKeys E := mergeSort_of_perm_i (hS.trans hperm)
  have hlen : ss.length = E.length := by rw [(hS.trans hperm).length_eq, length_keysOf]
  rw [hss, hlen] at hrow
  refine ⟨v, rfl, ⟨hrow.1, ?_⟩, ?_, ?_⟩
  · rcases hrow.2 with h2 | ⟨g, cp, cur, h3, h4, h5⟩
    · exact .inl h2
    · exact .inr ⟨g, cp, cur, h3, Nat.zero_le _, h5⟩
  · intro g hg
    rcases hrow.2 with h2 | ⟨g2, cp, cur, h3, h4, h5⟩
    · rw [h2.1] at hg; simp [Value.ownBlock] at hg
    · have hg' : g2 = g := by rw [h3] at hg; simpa [Value.ownBlock] using hg
      omega
  · have k1 : Keeps (fun _ => False) w (w.alloc (.cells #[.map (some m)] 168)) := (Keeps.refl _ _).alloc _
    exact k1.trans (Keeps.of_below (by simpa using hb))
end Tab
end Go.Proofs.YtnheibcjcgacpaaGreatDoor
