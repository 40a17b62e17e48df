/- Ranges over a map with int keys: which entries are still to come, as a list; a round may make blocks, write others, and store at a key that is there. -/
import Derived.Test.YtagmkkddjdlncaaDoorBase
import Derived.Maps.RangeRun
import Derived.Maps.Range
set_option linter.unusedVariables false
set_option linter.unusedSimpArgs false
namespace Go.Proofs.YtagmkkddjdlncaaDoor
open Go.RowKit Go.ChangeMaps
def kvOf (e : MapEntry) : Value × Value := (e.key, e.val)
def ikOf (p : Int × Value) : Value × Value := (Value.int .i64 p.1, p.2)
/-- Block b is a map with the entries l; block r ranges over it; those of left are still to come. -/
def IRange (w : World) (b r : Nat) (l left : List (Int × Value)) : Prop :=
  ∃ es clock since seen c0, w.heap[b]? = some (.map es clock) ∧ MapKept.Stamped es clock ∧ es.toList.map kvOf = l.map ikOf ∧ w.heap[r]? = some (.mapIter (some b) since seen c0) ∧
    (∀ x ∈ es.toList, x.born < since) ∧ since ≤ c0 ∧ since ≤ clock ∧ (leftOf es seen).toList.map kvOf = left.map ikOf
theorem IRange.map {w : World} {b r : Nat} {l left} (h : IRange w b r l left) : IMap w b l := by
  obtain ⟨es, cl, _, _, _, h1, h2, h3, _⟩ := h
  exact ⟨es, cl, h1, h2, h3⟩
theorem IRange.lt {w : World} {b r : Nat} {l left} (h : IRange w b r l left) : r < w.heap.size := by
  obtain ⟨es, cl, _, _, _, h1, h2, h3, h4, _⟩ := h
  exact lt_of h4
theorem IRange.ne {w : World} {b r : Nat} {l left} (h : IRange w b r l left) : r ≠ b := by
  obtain ⟨es, cl, _, _, _, h1, h2, h3, h4, _⟩ := h
  rintro rfl
  rw [h1] at h4; cases h4
theorem IRange.keep {F : Nat → Prop} {w w' : World} {b r : Nat} {l left} (h : IRange w b r l left) (k : Keeps F w w') (hb : ¬ F b) (hr : ¬ F r) : IRange w' b r l left := by
  have l1 := h.map.lt
  have l2 := h.lt
  obtain ⟨es, cl, s, sn, c0, h1, h2, h3, h4, h5⟩ := h
  exact ⟨es, cl, s, sn, c0, (k.block b l1 hb).trans h1, h2, h3, (k.block r l2 hr).trans h4, h5⟩
theorem IRange.left_eq {w : World} {b r : Nat} {l left} (h : IRange w b r l left) : w.rangeLeft b r = left.length := by
  obtain ⟨es, cl, s, sn, c0, h1, h2, h3, h4, h5, h6, h7, h8⟩ := h
  simp only [World.rangeLeft, h1, h4]
  have := congrArg List.length h8
  simpa using this
theorem IRange.drew {w : World} {b r : Nat} {l left} (h : IRange w b r l left) : IRange w.drew b r l left := h
theorem IMap.range {w : World} {b : Nat} {l} (h : IMap w b l) {P : Program} {t k e : TypeId} (ht : P.underlying t = some (.map k e)) :
    ∃ o, (Instr.range t (.map (some b))).run P w = .ok (.pointer (some ⟨w.heap.size, 0, none⟩)) (w.alloc o) ∧ IRange (w.alloc o) b w.heap.size l l := by
  obtain ⟨es, cl, h1, h2, h3⟩ := h
  refine ⟨_, run_range_map w t k e b es cl ht h1, es, cl, cl, #[], cl, alloc_old h1 _, h2, h3, alloc_new _ _, h2.1, Nat.le_refl _, Nat.le_refl _, ?_⟩
  have h3' : es.toList.map kvOf = l.map ikOf := h3
  rw [← h3']
  have : (leftOf es #[]).toList = es.toList := by
    simp only [leftOf, Array.toList_filter]
    exact List.filter_eq_self.2 fun x hx => by simp
  rw [this]
theorem filter_set_false {α : Type} (p : α → Bool) : ∀ (l : List α) (j : Nat) (a b : α), l[j]? = some a → p a = false → p b = false → (l.set j b).filter p = l.filter p
  | [], _, _, _, h, _, _ => by simp at h
  | x :: l, 0, a, b, h, ha, hb => by
    simp at h; subst h
    simp [ha, hb]
  | x :: l, j + 1, a, b, h, ha, hb => by
    simp only [List.getElem?_cons_succ] at h
    simp only [List.set_cons_succ, List.filter_cons, filter_set_false p l j a b h ha hb]
theorem map_split {α β γ : Type} (f : α → γ) (g : β → γ) : ∀ (L1 : List α) (e : α) (L2 : List α) (left : List β), (L1 ++ e :: L2).map f = left.map g →
    ∃ l1 p l2, left = l1 ++ p :: l2 ∧ f e = g p ∧ (L1 ++ L2).map f = (l1 ++ l2).map g
  | [], e, L2, left, h => by
    cases left with
    | nil => simp at h
    | cons p l2 =>
      simp only [List.nil_append, List.map_cons, List.cons.injEq] at h
      exact ⟨[], p, l2, rfl, h.1, by simpa using h.2⟩
  | a :: L1, e, L2, left, h => by
    cases left with
    | nil => simp at h
    | cons q left =>
      simp only [List.cons_append, List.map_cons, List.cons.injEq] at h
      obtain ⟨l1, p, l2, rfl, h1, h2⟩ := map_split f g L1 e L2 left h.2
      exact ⟨q :: l1, p, l2, rfl, h1, by simp only [List.cons_append, List.map_cons, h.1, h2]⟩
theorem IRange.next0 {w : World} {b r : Nat} {l left} (h : IRange w b r l left) (P : Program) (ty : TypeId) :
    (left = [] ∧ (Instr.next (.pointer (some ⟨r, 0, none⟩)) false ty).run P w = .ok (.tuple #[.bool false]) w) ∨
    ∃ k v l1 l2 w', left = l1 ++ (k, v) :: l2 ∧ (k, v) ∈ l ∧ (Instr.next (.pointer (some ⟨r, 0, none⟩)) false ty).run P w = .ok (.tuple #[.bool true, .int .i64 k, v]) w' ∧ IRange w' b r l (l1 ++ l2) ∧ Keeps (fun x => x = r) w w' ∧
      (Instr.entry (.pointer (some ⟨r, 0, none⟩))).run P w' = .ok (.tuple #[.int .i64 k, v]) w' := by
  have hne := h.ne
  obtain ⟨es, cl, s, sn, c0, h1, h2, h3, h4, h5, h6, h7, h8⟩ := h
  rcases run_next_at (P := P) w ty r b s c0 sn es cl h4 h1 h5 h6 with ⟨h0, hrun⟩ | ⟨e, he, w1, hal, hrun⟩
  · refine .inl ⟨?_, hrun⟩
    have := congrArg List.length h8
    simp only [List.length_map, Array.length_toList, h0] at this
    exact List.length_eq_zero_iff.1 this.symm
  · obtain ⟨hem, hes⟩ := mem_left he
    obtain ⟨L1, L2, hL⟩ := List.append_of_mem he
    rw [hL] at h8
    obtain ⟨l1, ⟨k, v⟩, l2, hl, hkv, hrest⟩ := map_split kvOf ikOf L1 e L2 left h8
    simp only [kvOf, ikOf, Prod.mk.injEq] at hkv
    have hst := (MapKept.stamped_iff es cl).1 h2
    have hmem : (k, v) ∈ l := by
      have : kvOf e ∈ l.map ikOf := by rw [← h3]; exact List.mem_map.2 ⟨e, hem, rfl⟩
      obtain ⟨p, hp, hpe⟩ := List.mem_map.1 this
      simp only [kvOf, ikOf, Prod.mk.injEq] at hpe
      rw [hkv.1, hkv.2] at hpe
      have : p = (k, v) := by
        obtain ⟨p1, p2⟩ := p
        simp only [Value.int.injEq, true_and] at hpe
        rw [hpe.1, hpe.2]
      rw [← this]; exact hp
    have hr1 : w1.heap[r]? = some (.mapIter (some b) s sn c0) := by rcases hal with rfl | rfl <;> exact h4
    have hb1 : w1.heap[b]? = some (.map es cl) := by rcases hal with rfl | rfl <;> exact h1
    have hset := MapKept.heap_set (o' := .mapIter (some b) s (sn.push e.born) cl) hr1
    have hb' : (setBlock w1 r (.mapIter (some b) s (sn.push e.born) cl)).heap[b]? = some (.map es cl) := (hset.2 b (fun e1 => hne e1.symm)).trans hb1
    have hleft : (leftOf es (sn.push e.born)).toList = L1 ++ L2 := by
      have e1 : (leftOf es (sn.push e.born)).toList = ((leftOf es sn).toList).filter (fun x => !(x.born == e.born)) := by
        simp only [leftOf, Array.toList_filter, List.filter_filter]
        refine List.filter_congr fun x _ => ?_
        rw [contains_push]
        cases sn.contains x.born <;> cases (x.born == e.born) <;> rfl
      have hn : ((leftOf es sn).toList.map (·.born)).Nodup := by
        simp only [leftOf, Array.toList_filter]
        exact hst.2.1.sublist (List.filter_sublist.map _)
      rw [e1, hL]
      rw [hL, List.map_append, List.map_cons, List.nodup_append] at hn
      obtain ⟨n1, n2, n3⟩ := hn
      rw [List.nodup_cons] at n2
      have a1 : L1.filter (fun x => !(x.born == e.born)) = L1 := List.filter_eq_self.2 fun x hx => by
        have := n3 x.born (List.mem_map.2 ⟨x, hx, rfl⟩) e.born (by simp)
        simpa using this
      have a2 : L2.filter (fun x => !(x.born == e.born)) = L2 := List.filter_eq_self.2 fun x hx => by
        have : ¬ x.born = e.born := fun q => n2.1 (by rw [← q]; exact List.mem_map.2 ⟨x, hx, rfl⟩)
        simpa using this
      rw [List.filter_append, a1, List.filter_cons]
      simp [a2]
    have hK : Keeps (fun x => x = r) w (setBlock w1 r (.mapIter (some b) s (sn.push e.born) cl)) := by
      rcases hal with rfl | rfl
      · exact (Keeps.refl _ _).setBlock _ _ (.inl rfl)
      · exact (Keeps.refl _ _).drew.setBlock _ _ (.inl rfl)
    rw [hkv.1, hkv.2] at hrun
    have hen := run_entry_at (P := P) _ r b s sn es cl e hset.1 hb' hem hst.2.1
    rw [hkv.1, hkv.2] at hen
    exact .inr ⟨k, v, l1, l2, _, hl, hmem, hrun, ⟨es, cl, s, sn.push e.born, cl, hb', h2, h3, hset.1, h5, h7, h7, by rw [hleft]; exact hrest⟩, hK, hen⟩
theorem IRange.next {w : World} {b r : Nat} {l left} (h : IRange w b r l left) (P : Program) :
    (left = [] ∧ ∀ ty, (Instr.next (.pointer (some ⟨r, 0, none⟩)) false ty).run P w = .ok (.tuple #[.bool false]) w) ∨
    ∃ k v l1 l2 w', left = l1 ++ (k, v) :: l2 ∧ (k, v) ∈ l ∧ (∀ ty, (Instr.next (.pointer (some ⟨r, 0, none⟩)) false ty).run P w = .ok (.tuple #[.bool true, .int .i64 k, v]) w') ∧ IRange w' b r l (l1 ++ l2) ∧ Keeps (fun x => x = r) w w' ∧
      (Instr.entry (.pointer (some ⟨r, 0, none⟩))).run P w' = .ok (.tuple #[.int .i64 k, v]) w' := by
  have e : ∀ ty, Instr.next (.pointer (some ⟨r, 0, none⟩)) false ty = Instr.next (.pointer (some ⟨r, 0, none⟩)) false 0 := fun _ => rfl
  rcases h.next0 P 0 with ⟨h1, h2⟩ | ⟨k, v, l1, l2, w', h1, h2, h3, h4⟩
  · exact .inl ⟨h1, fun ty => by rw [e]; exact h2⟩
  · exact .inr ⟨k, v, l1, l2, w', h1, h2, fun ty => by rw [e]; exact h3, h4⟩
theorem aget_mem {l : List (Int × Value)} {k : Int} {v : Value} (h : aget l k = some v) : (k, v) ∈ l := by
  unfold aget at h
  cases hf : l.find? (fun p => p.1 == k) with
  | none => rw [hf] at h; cases h
  | some p =>
    rw [hf] at h
    have h1 := List.find?_some hf
    have h2 := List.mem_of_find?_eq_some hf
    obtain ⟨p1, p2⟩ := p
    simp only [Option.map_some, Option.some.injEq] at h
    simp only [beq_iff_eq] at h1
    subst h1 h
    exact h2
theorem aget_of_mem : ∀ {l : List (Int × Value)}, (l.map (·.1)).Nodup → ∀ {x : Int × Value}, x ∈ l → aget l x.1 = some x.2
  | [], _, _, hx => by simp at hx
  | y :: l, hn, x, hx => by
    rw [List.map_cons, List.nodup_cons] at hn
    unfold aget
    rw [List.find?_cons]
    rcases List.mem_cons.1 hx with rfl | hx
    · simp
    · have : ¬ y.1 = x.1 := fun q => hn.1 (by rw [q]; exact List.mem_map.2 ⟨_, hx, rfl⟩)
      have hb : (y.1 == x.1) = false := by simpa using this
      rw [hb]
      exact aget_of_mem hn.2 hx
theorem IMap.nodup {w : World} {b : Nat} {l} (h : IMap w b l) : (l.map (·.1)).Nodup := by
  obtain ⟨es, cl, h1, h2, h3⟩ := h
  have hnd := ((MapKept.stamped_iff es cl).1 h2).2.2
  have h4 := congrArg (List.map (·.1)) h3
  rw [List.map_map, List.map_map] at h4
  have h5 : (es.toList.map (·.key)).Nodup := by
    unfold List.Nodup
    rw [List.pairwise_map]; exact hnd
  have h6 : es.toList.map (·.key) = (l.map (·.1)).map (Value.int .i64) := by
    rw [List.map_map]; exact h4
  rw [h6] at h5
  unfold List.Nodup at h5 ⊢
  rw [List.pairwise_map] at h5
  exact h5.imp (fun hne e => hne (by rw [e]))
theorem aset_same {w : World} {b : Nat} {l} (h : IMap w b l) {k : Int} {v : Value} (hk : aget l k = some v) : aset l k v = l := by
  have hn := h.nodup
  unfold aset
  rw [← aget_isSome_iff, hk]
  simp only [Option.isSome_some, if_true]
  conv => rhs; rw [← List.map_id l]
  refine List.map_congr_left fun x hx => ?_
  by_cases e : x.1 = k
  · have := aget_of_mem hn hx
    rw [e, hk] at this
    obtain ⟨x1, x2⟩ := x
    simp only [Option.some.injEq] at this e
    simp [e, this]
  · simp [e]
/-- A store at a key that is there, and has been met. -/
theorem IRange.update {w : World} {b r : Nat} {l left} (h : IRange w b r l left) {P : Program} {t e : TypeId} (kt : TypeId) (ht : P.underlying t = some (.map kt e)) (hk : P.underlying kt = some (.int .i64)) (k : Int) (v : Value)
    (hthere : (aget l k).isSome = true) (hnl : ∀ p ∈ left, p.1 ≠ k) :
    ∃ w', (Instr.mapUpdate t (.map (some b)) (.int .i64 k) v).run P w = .ok () w' ∧ IRange w' b r (aset l k v) left ∧ Keeps (fun x => x = b) w w' := by
  have hne := h.ne
  obtain ⟨es, cl, s, sn, c0, hb, hs, hl, h4, h5, h6, h7, h8⟩ := h
  rcases find_split k l es.toList hl 0 with ⟨h1, h2, h3⟩ | ⟨j, e', v', h1, h2, h3, hv, hg⟩
  · rw [h2] at hthere; cases hthere
  · have hjl : j < es.toList.length := (List.getElem?_eq_some_iff.1 h2).1
    have hj : es[j]? = some e' := by simpa using h2
    have hmod : (es.modify j (fun e' => { e' with key := .int .i64 k, val := v })).toList = es.toList.set j { e' with key := .int .i64 k, val := v } := by
      rw [Array.toList_modify, ChangeMaps.modify_eq_set _ _ _ _ h2]
    refine ⟨setBlock w b (.map (es.modify j (fun e' => { e' with key := .int .i64 k, val := v })) cl), ?_, ⟨es.modify j (fun e' => { e' with key := .int .i64 k, val := v }), cl, s, sn, c0, heap_setBlock_same hb _, ?_, ?_, (heap_setBlock_other hb _ hne).trans h4, ?_, h6, h7, ?_⟩, (Keeps.refl _ _).setBlock _ _ (.inl rfl)⟩
    · simp [Instr.mapUpdate, run_underlying ht, MapKept.run_getObj_map hb, MapKept.run_checkKey hk (isKey_i64 k), MapKept.run_findKey hk h1, hj, h3, keyStays, MapKept.run_setObj_map _ hb, Result.andThen, setBlock]
    · refine MapKept.stamped_modify hs _ _ (fun _ _ => rfl) ?_
      intro x hx hxj
      rw [hj] at hxj; cases hxj; exact h3.symm
    · have h2' := aget_isSome_iff l k
      rw [hg] at h2'
      unfold aset
      rw [← h2', hmod, if_pos (by rfl)]
      exact map_set_key k v es.toList l j e' hl hs.2.2 h2 h3
    · intro x hx
      rw [hmod] at hx
      rcases List.mem_or_eq_of_mem_set hx with hx | rfl
      · exact h5 x hx
      · exact h5 e' (List.mem_of_getElem? h2)
    · have hseen : sn.contains e'.born = true := by
        cases hc : sn.contains e'.born
        · exfalso
          have hm : e' ∈ (leftOf es sn).toList := by
            simp only [leftOf, Array.toList_filter, List.mem_filter]
            exact ⟨List.mem_of_getElem? h2, by rw [hc]; rfl⟩
          have : kvOf e' ∈ left.map ikOf := by rw [← h8]; exact List.mem_map.2 ⟨e', hm, rfl⟩
          obtain ⟨p, hp, hpe⟩ := List.mem_map.1 this
          simp only [kvOf, ikOf, Prod.mk.injEq, h3, Value.int.injEq, true_and] at hpe
          exact hnl p hp hpe.1
        · rfl
      rw [← h8]
      simp only [leftOf, Array.toList_filter, hmod]
      rw [filter_set_false _ _ _ _ _ h2 (by simp only [hseen]; rfl) (by simp only [hseen]; rfl)]

/-! ### .. whose values are data -/
section
variable {α : Type} {enc : α → Value} {w : World} {b r : Nat} {l left : List (Int × α)}
def ERange (enc : α → Value) (w : World) (b r : Nat) (l left : List (Int × α)) : Prop := IRange w b r (encs enc l) (encs enc left)
theorem ERange.map (h : ERange enc w b r l left) : EMap enc w b l := IRange.map h
theorem ERange.lt (h : ERange enc w b r l left) : r < w.heap.size := IRange.lt h
theorem ERange.ne (h : ERange enc w b r l left) : r ≠ b := IRange.ne h
theorem ERange.keep {F : Nat → Prop} {w' : World} (h : ERange enc w b r l left) (k : Keeps F w w') (hb : ¬ F b) (hr : ¬ F r) : ERange enc w' b r l left := IRange.keep h k hb hr
theorem ERange.left_eq (h : ERange enc w b r l left) : w.rangeLeft b r = left.length := by rw [IRange.left_eq h]; simp [encs]
theorem ERange.drew (h : ERange enc w b r l left) : ERange enc w.drew b r l left := h
theorem EMap.range (h : EMap enc w b l) {P : Program} {t k e : TypeId} (ht : P.underlying t = some (.map k e)) :
    ∃ w', (Instr.range t (.map (some b))).run P w = .ok (.pointer (some ⟨w.heap.size, 0, none⟩)) w' ∧ ERange enc w' b w.heap.size l l ∧ Keeps (fun _ => False) w w' := by
  obtain ⟨o, h1, h2⟩ := IMap.range h ht
  exact ⟨_, h1, h2, (Keeps.refl _ _).alloc _⟩
theorem ERange.next (h : ERange enc w b r l left) (P : Program) :
    (left = [] ∧ ∀ ty, (Instr.next (.pointer (some ⟨r, 0, none⟩)) false ty).run P w = .ok (.tuple #[.bool false]) w) ∨
    ∃ k v l1 l2 w', left = l1 ++ (k, v) :: l2 ∧ (∀ ty, (Instr.next (.pointer (some ⟨r, 0, none⟩)) false ty).run P w = .ok (.tuple #[.bool true, .int .i64 k, enc v]) w') ∧ ERange enc w' b r l (l1 ++ l2) ∧ Keeps (fun x => x = r) w w' ∧
      (Instr.entry (.pointer (some ⟨r, 0, none⟩))).run P w' = .ok (.tuple #[.int .i64 k, enc v]) w' := by
  rcases IRange.next h P with ⟨h1, h2⟩ | ⟨k, v, l1, l2, w', h1, h2, h3, h4, h5, h6⟩
  · refine .inl ⟨?_, h2⟩
    cases left with
    | nil => rfl
    | cons p q => simp [encs] at h1
  · obtain ⟨a1, a2, ha, hb, hc⟩ := List.map_eq_append_iff.1 h1
    obtain ⟨p, a3, rfl, hp, hq⟩ := List.map_eq_cons_iff.1 hc
    obtain ⟨p1, p2⟩ := p
    simp only [Prod.mk.injEq] at hp
    obtain ⟨rfl, rfl⟩ := hp
    refine .inr ⟨p1, p2, a1, a3, w', ha, h3, ?_, h5, h6⟩
    show IRange w' b r _ (encs enc (a1 ++ a3))
    rw [show encs enc (a1 ++ a3) = l1 ++ l2 by rw [← hb, ← hq]; simp [encs]]
    exact h4
theorem ERange.update (h : ERange enc w b r l left) {P : Program} {t e : TypeId} (kt : TypeId) (ht : P.underlying t = some (.map kt e)) (hk : P.underlying kt = some (.int .i64)) (k : Int) (v : α)
    (hthere : (eget l k).isSome = true) (hnl : ∀ p ∈ left, p.1 ≠ k) :
    ∃ w', (Instr.mapUpdate t (.map (some b)) (.int .i64 k) (enc v)).run P w = .ok () w' ∧ ERange enc w' b r (eset l k v) left ∧ Keeps (fun x => x = b) w w' := by
  obtain ⟨w', h1, h2, h3⟩ := IRange.update h kt ht hk k (enc v) (by rw [aget_encs]; simpa using hthere) (by
    intro p hp
    obtain ⟨q, hq, rfl⟩ := List.mem_map.1 hp
    exact hnl q hq)
  rw [aset_encs] at h2
  exact ⟨w', h1, h2, h3⟩
end
end Go.Proofs.YtagmkkddjdlncaaDoor
