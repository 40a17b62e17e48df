/- 'a[k], b[l] = x, y' on maps: an entry is laid first, and its value stored behind. -/
import Derived.Test.YtnheibcjcgacpaaGreatDoorBase
import GoSem.Instr.MapEntry
set_option linter.unusedVariables false
set_option linter.unusedSimpArgs false
namespace Go.Proofs.YtnheibcjcgacpaaGreatDoor
open Go.RowKit Go.ChangeMaps

theorem findIdx_born (es : Array MapEntry) (hn : (es.toList.map (·.born)).Nodup) (j : Nat) (e : MapEntry) (h : es[j]? = some e) : es.findIdx? (fun x => (x.born : Int) == (e.born : Int)) = some j := by
  rw [Array.findIdx?_eq_some_iff_getElem]
  obtain ⟨hj, he⟩ := Array.getElem?_eq_some_iff.1 h
  refine ⟨hj, by simp [he], fun i hij => ?_⟩
  simp only [beq_iff_eq]
  intro e1
  have e2 : es[i].born = e.born := by omega
  have hi : i < es.size := by omega
  have h1 : (es.toList.map (·.born))[i]? = some e.born := by simp [hi, e2]
  have h2 : (es.toList.map (·.born))[j]? = some e.born := by simp [hj, he]
  have := (List.getElem?_inj (by simpa using hi) hn).1 (h1.trans h2.symm)
  omega

section
variable {P : Program} {t : TypeId} {e : TypeId} {w : World} {b : Nat} {l : List (Int × Value)}
theorem IMap.entry (h : IMap w b l) (kt : TypeId) (ht : P.underlying t = some (.map kt e)) (hk : P.underlying kt = some (.int .i64)) (k : Int) {z : Value} (hz : (zeroValue e).run P w = .ok z w) :
    ∃ v s w1, (Instr.mapEntry t (.map (some b)) (.int .i64 k)).run P w = .ok (.tuple #[v, .int .i64 s]) w1 ∧ Keeps (fun x => x = b) w w1 ∧
      ∀ x, ∃ w2, (Instr.entryStore t (.map (some b)) (.int .i64 s) x).run P w1 = .ok () w2 ∧ IMap w2 b (aset l k x) ∧ Keeps (fun x => x = b) w1 w2 := by
  have hlt := h.lt
  obtain ⟨es, cl, hb, hs, hl⟩ := h
  rcases find_split k l es.toList hl 0 with ⟨h1, h2, h3⟩ | ⟨j, e', v', h1, h2, h3, h4, h5⟩
  · have hb1 : (setBlock w b (.map (es.push ⟨.int .i64 k, z, cl⟩) (cl + 1))).heap[b]? = some (.map (es.push ⟨.int .i64 k, z, cl⟩) (cl + 1)) := heap_setBlock_same hb _
    refine ⟨z, (cl : Int), setBlock w b (.map (es.push ⟨.int .i64 k, z, cl⟩) (cl + 1)), ?_, (Keeps.refl _ _).setBlock _ _ (.inl rfl), fun x => ?_⟩
    · simp [Instr.mapEntry, run_underlying ht, MapKept.run_getObj_map hb, MapKept.run_checkKey hk (isKey_i64 k), MapKept.run_findKey hk h1, MapKept.run_setObj_map _ hb, hz, Result.andThen, setBlock, goInt]
    · have hs1 := MapKept.stamped_push hs (val := z) h3
      have hf := findIdx_born (es.push ⟨.int .i64 k, z, cl⟩) hs1.2.1 es.size ⟨.int .i64 k, z, cl⟩ (by simp)
      refine ⟨setBlock (setBlock w b (.map (es.push ⟨.int .i64 k, z, cl⟩) (cl + 1))) b (.map ((es.push ⟨.int .i64 k, z, cl⟩).modify es.size fun e => { e with val := x }) (cl + 1)), ?_, ⟨_, _, heap_setBlock_same hb1 _, ?_, ?_⟩, (Keeps.refl _ _).setBlock _ _ (.inl rfl)⟩
      · simp [Instr.entryStore, MapKept.run_getObj_map hb1, Result.andThen, asInt, asIntOf, hf, MapKept.run_setObj_map _ hb1]
        rfl
      · exact MapKept.stamped_modify hs1 _ _ (fun _ _ => rfl) (fun _ _ _ => rfl)
      · have h2' := aget_isSome_iff l k
        rw [h2] at h2'
        unfold aset
        rw [← h2']
        have : ((es.push ⟨.int .i64 k, z, cl⟩).modify es.size fun e => { e with val := x }).toList = es.toList ++ [⟨.int .i64 k, x, cl⟩] := by
          rw [Array.toList_modify, ChangeMaps.modify_eq_set _ _ _ ⟨.int .i64 k, z, cl⟩ (by simp)]
          simp
        rw [this]
        simp [hl]
  · have hj : es[j]? = some e' := by simpa using h2
    have hk1 : ∀ x, es[j]? = some x → ({ x with key := .int .i64 k } : MapEntry).key = x.key := fun x hx => by rw [hj] at hx; cases hx; exact h3.symm
    have hs1 := MapKept.stamped_modify hs j (fun e => { e with key := .int .i64 k }) (fun _ _ => rfl) (fun x _ hx => hk1 x hx)
    have hb1 : (setBlock w b (.map (es.modify j fun e => { e with key := .int .i64 k }) cl)).heap[b]? = some (.map (es.modify j fun e => { e with key := .int .i64 k }) cl) := heap_setBlock_same hb _
    have hj1 : (es.modify j fun e => { e with key := .int .i64 k })[j]? = some { e' with key := .int .i64 k } := by simp [Array.getElem?_modify, hj]
    have hf := findIdx_born _ hs1.2.1 j _ hj1
    refine ⟨e'.val, (e'.born : Int), setBlock w b (.map (es.modify j fun e => { e with key := .int .i64 k }) cl), ?_, (Keeps.refl _ _).setBlock _ _ (.inl rfl), fun x => ?_⟩
    · simp [Instr.mapEntry, run_underlying ht, MapKept.run_getObj_map hb, MapKept.run_checkKey hk (isKey_i64 k), MapKept.run_findKey hk h1, hj, h3, keyStays, MapKept.run_setObj_map _ hb, Result.andThen, setBlock, goInt]
    · refine ⟨setBlock (setBlock w b (.map (es.modify j fun e => { e with key := .int .i64 k }) cl)) b (.map ((es.modify j fun e => { e with key := .int .i64 k }).modify j fun e => { e with val := x }) cl), ?_, ⟨_, _, heap_setBlock_same hb1 _, ?_, ?_⟩, (Keeps.refl _ _).setBlock _ _ (.inl rfl)⟩
      · simp [Instr.entryStore, MapKept.run_getObj_map hb1, Result.andThen, asInt, asIntOf, hf, MapKept.run_setObj_map _ hb1]
        rfl
      · exact MapKept.stamped_modify hs1 _ _ (fun _ _ => rfl) (fun _ _ _ => rfl)
      · have h2' := aget_isSome_iff l k
        rw [h5] at h2'
        unfold aset
        rw [← h2', if_pos (by rfl), Array.toList_modify, Array.toList_modify, ChangeMaps.modify_eq_set _ es.toList j e' h2, ChangeMaps.modify_eq_set _ _ j { e' with key := .int .i64 k } (by have hjs : j < es.size := (Array.getElem?_eq_some_iff.1 hj).1; simp [h2, List.getElem?_set, hjs])]
        rw [List.set_set]
        exact map_set_key k x es.toList l j e' hl hs.2.2 h2 h3
end
section
variable {α : Type} {enc : α → Value} {w : World} {b : Nat} {l : List (Int × α)} {P : Program} {t e : TypeId}
theorem EMap.entry (h : EMap enc w b l) (kt : TypeId) (ht : P.underlying t = some (.map kt e)) (hk : P.underlying kt = some (.int .i64)) (k : Int) {z : Value} (hz : (zeroValue e).run P w = .ok z w) (x : α) :
    ∃ v s w1 w2, (Instr.mapEntry t (.map (some b)) (.int .i64 k)).run P w = .ok (.tuple #[v, .int .i64 s]) w1 ∧ Keeps (fun x => x = b) w w1 ∧
      (Instr.entryStore t (.map (some b)) (.int .i64 s) (enc x)).run P w1 = .ok () w2 ∧ EMap enc w2 b (eset l k x) ∧ Keeps (fun x => x = b) w w2 := by
  obtain ⟨v, s, w1, h1, h2, h3⟩ := IMap.entry h kt ht hk k hz
  obtain ⟨w2, h4, h5, h6⟩ := h3 (enc x)
  rw [aset_encs] at h5
  exact ⟨v, s, w1, w2, h1, h2, h4, h5, h2.trans h6⟩
end
end Go.Proofs.YtnheibcjcgacpaaGreatDoor
