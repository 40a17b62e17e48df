/- Base words for the walks: blocks whose content is known whole; maps over int keys as lists of pairs in the order of their entries; what a call leaves as it was. -/
import Derived.WalkKit
import Derived.MapKept
import Derived.Maps.Keyed
import Derived.Deep.Draws
set_option linter.unusedVariables false
set_option linter.unusedSimpArgs false
namespace Go.Proofs.YtnheibcjcgacpaaGreatDoor
open Go.RowKit Go.ChangeMaps

end Go.Proofs.YtnheibcjcgacpaaGreatDoor
namespace Go.RowKit
theorem Hid.of {p : Prop} (h : p) : Hid p := h
end Go.RowKit
namespace Go.Proofs.YtnheibcjcgacpaaGreatDoor
open Go.RowKit Go.ChangeMaps
/-! ### Blocks of cells -/
theorem cell_of {w : World} {b : Nat} {c : Array Value} {t : TypeId} {z : Nat × Nat} (h : w.heap[b]? = some (.cells c t z)) (i : Nat) {v : Value} (hv : c[i]? = some v) : w.cell? ⟨b, i, none⟩ = some v := by
  simp [World.cell?, h, hv]
theorem free_of {w : World} {b : Nat} {c : Array Value} {t : TypeId} (h : w.heap[b]? = some (.cells c t (0, 0))) (i : Nat) : w.frozen? ⟨b, i, none⟩ = false := by
  simp [World.frozen?, h]
theorem lt_of {w : World} {b : Nat} {o : Obj} (h : w.heap[b]? = some o) : b < w.heap.size := (Array.getElem?_eq_some_iff.1 h).1
theorem set_of {w : World} {b : Nat} {c : Array Value} {t : TypeId} {z : Nat × Nat} (h : w.heap[b]? = some (.cells c t z)) (i : Nat) (v : Value) :
    (w.setCell ⟨b, i, none⟩ v).heap[b]? = some (.cells (c.setIfInBounds i v) t z) := by
  simp [World.setCell, Array.getElem?_modify, h]
theorem set_other {w : World} {b : Nat} (a : Addr) (v : Value) (hne : b ≠ a.block) : (w.setCell a v).heap[b]? = w.heap[b]? := by
  simp only [World.setCell, Array.getElem?_modify]; rw [if_neg (by omega)]
theorem alloc_old {w : World} {b : Nat} {o : Obj} (h : w.heap[b]? = some o) (o' : Obj) : (w.alloc o').heap[b]? = some o := by
  have := lt_of h
  show (w.heap.push o')[b]? = _
  rw [Array.getElem?_push, if_neg (by omega)]; exact h
theorem alloc_new (w : World) (o : Obj) : (w.alloc o).heap[w.heap.size]? = some o := by
  show (w.heap.push o)[w.heap.size]? = _
  rw [Array.getElem?_push, if_pos rfl]

theorem alloc_at (w : World) (o : Obj) (n : Nat) (h : n = w.heap.size) : (w.alloc o).heap[n]? = some o := by rw [h]; exact alloc_new w o

/-! ### What a call leaves as it was: all blocks that were there but those of F -/
structure Keeps (F : Nat → Prop) (w w' : World) : Prop where
  os : w'.os = w.os
  tape : w'.tape = w.tape
  output : w'.output = w.output
  size : w.heap.size ≤ w'.heap.size
  block : ∀ b, b < w.heap.size → ¬ F b → w'.heap[b]? = w.heap[b]?
theorem Keeps.refl (F : Nat → Prop) (w : World) : Keeps F w w := ⟨rfl, rfl, rfl, Nat.le_refl _, fun _ _ _ => rfl⟩
theorem Keeps.trans {F : Nat → Prop} {a b c : World} (h : Keeps F a b) (k : Keeps F b c) : Keeps F a c :=
  ⟨k.os.trans h.os, k.tape.trans h.tape, k.output.trans h.output, Nat.le_trans h.size k.size, fun i hi hf => (k.block i (Nat.lt_of_lt_of_le hi h.size) hf).trans (h.block i hi hf)⟩
theorem Keeps.mono {F G : Nat → Prop} {a b : World} (h : Keeps F a b) (hFG : ∀ x, x < a.heap.size → F x → G x) : Keeps G a b :=
  ⟨h.os, h.tape, h.output, h.size, fun i hi hf => h.block i hi (fun hF => hf (hFG i hi hF))⟩
theorem Keeps.drew {F : Nat → Prop} {a b : World} (h : Keeps F a b) : Keeps F a b.drew := ⟨h.os, h.tape, h.output, h.size, h.block⟩
theorem Keeps.drewN {F : Nat → Prop} {a b : World} (h : Keeps F a b) (n : Nat) : Keeps F a (b.drewN n) := ⟨h.os, h.tape, h.output, h.size, h.block⟩
theorem Keeps.alloc {F : Nat → Prop} {a b : World} (h : Keeps F a b) (o : Obj) : Keeps F a (b.alloc o) := by
  refine ⟨h.os, h.tape, h.output, Nat.le_trans h.size (by simp), fun i hi hf => ?_⟩
  rw [← h.block i hi hf]
  have := h.size
  show (b.heap.push o)[i]? = _
  rw [Array.getElem?_push, if_neg (by omega)]
theorem Keeps.setCell {F : Nat → Prop} {a b : World} (h : Keeps F a b) (p : Addr) (v : Value) (hp : F p.block ∨ a.heap.size ≤ p.block) : Keeps F a (b.setCell p v) := by
  refine ⟨h.os, h.tape, h.output, by rw [World.size_setCell]; exact h.size, fun i hi hf => ?_⟩
  rw [← h.block i hi hf]
  refine set_other _ _ ?_
  rintro rfl
  rcases hp with hp | hp
  · exact hf hp
  · omega
theorem Keeps.setBlock {F : Nat → Prop} {a b : World} (h : Keeps F a b) (m : Nat) (o : Obj) (hp : F m ∨ a.heap.size ≤ m) : Keeps F a (setBlock b m o) := by
  refine ⟨h.os, h.tape, h.output, by simpa [ChangeMaps.setBlock] using h.size, fun i hi hf => ?_⟩
  rw [← h.block i hi hf]
  show (b.heap.setIfInBounds m o)[i]? = _
  rw [Array.getElem?_setIfInBounds_ne]
  rintro rfl
  rcases hp with hp | hp
  · exact hf hp
  · omega
/-- The second step may turn more, as long as that was made since. -/
theorem Keeps.trans' {F G : Nat → Prop} {a b c : World} (h : Keeps F a b) (k : Keeps G b c) (hG : ∀ x, G x → x < a.heap.size → F x) : Keeps F a c :=
  ⟨k.os.trans h.os, k.tape.trans h.tape, k.output.trans h.output, Nat.le_trans h.size k.size, fun i hi hf => (k.block i (Nat.lt_of_lt_of_le hi h.size) (fun hg => hf (hG i hg hi))).trans (h.block i hi hf)⟩
theorem Keeps.of_drew {F : Nat → Prop} {a b : World} (h : Keeps F a.drew b) : Keeps F a b := ⟨h.os, h.tape, h.output, h.size, h.block⟩
theorem Keeps.of_drewN {F : Nat → Prop} {a b : World} {n : Nat} (h : Keeps F (a.drewN n) b) : Keeps F a b := ⟨h.os, h.tape, h.output, h.size, h.block⟩
theorem Keeps.below {a b : World} (h : Keeps (fun _ => False) a b) : Below a.heap.size a b := ⟨h.os, h.tape, h.output, h.size, fun i hi => h.block i hi (fun x => x)⟩
theorem Keeps.of_below {a b : World} {F : Nat → Prop} (h : Below a.heap.size a b) : Keeps F a b := ⟨h.os, h.tape, h.output, h.size, fun i hi _ => h.block i hi⟩
theorem Keeps.at {F : Nat → Prop} {a b : World} (h : Keeps F a b) {i : Nat} {o : Obj} (ho : a.heap[i]? = some o) (hf : ¬ F i) : b.heap[i]? = some o :=
  (h.block i (lt_of ho) hf).trans ho

/-! ### Maps over int keys -/
def aget (l : List (Int × Value)) (k : Int) : Option Value := (l.find? (fun p => p.1 == k)).map (·.2)
def aset (l : List (Int × Value)) (k : Int) (v : Value) : List (Int × Value) :=
  if (l.find? (fun p => p.1 == k)).isSome then l.map (fun p => if p.1 == k then (k, v) else p) else l ++ [(k, v)]
def adel (l : List (Int × Value)) (k : Int) : List (Int × Value) := l.filter (fun p => !(p.1 == k))

/-- Block b is a map over int keys with just these entries, in this order. -/
def IMap (w : World) (b : Nat) (l : List (Int × Value)) : Prop :=
  ∃ es clock, w.heap[b]? = some (.map es clock) ∧ MapKept.Stamped es clock ∧ es.toList.map (fun e => (e.key, e.val)) = l.map (fun p => (Value.int .i64 p.1, p.2))

theorem IMap.lt {w : World} {b : Nat} {l} (h : IMap w b l) : b < w.heap.size := by
  obtain ⟨_, _, h, _⟩ := h; exact lt_of h
theorem IMap.same {w w' : World} {b : Nat} {l} (h : IMap w b l) (e : w'.heap[b]? = w.heap[b]?) : IMap w' b l := by
  obtain ⟨es, c, h1, h2⟩ := h; exact ⟨es, c, e.trans h1, h2⟩
theorem IMap.keep {F : Nat → Prop} {w w' : World} {b : Nat} {l} (h : IMap w b l) (hk : Keeps F w w') (hf : ¬ F b) : IMap w' b l := h.same (hk.block b h.lt hf)
theorem IMap.drew {w : World} {b : Nat} {l} (h : IMap w b l) : IMap w.drew b l := h
theorem IMap.alloc {w : World} {b : Nat} {l} (h : IMap w b l) (o : Obj) : IMap (w.alloc o) b l := by
  refine h.same ?_
  have := h.lt
  show (w.heap.push o)[b]? = _
  rw [Array.getElem?_push, if_neg (by omega)]
theorem IMap.setCell {w : World} {b : Nat} {l} (h : IMap w b l) (a : Addr) (v : Value) (hne : b ≠ a.block) : IMap (w.setCell a v) b l := h.same (set_other a v hne)
theorem IMap.new (w : World) : IMap (w.alloc (.map #[] 0)) w.heap.size [] := ⟨#[], 0, alloc_new _ _, MapKept.stamped_empty 0, rfl⟩

theorem isKey_i64 (k : Int) : MapKept.IsKey (.int .i64) (.int .i64 k) := rfl

theorem find_split (k : Int) (l : List (Int × Value)) (es : List MapEntry) (h : es.map (fun e => (e.key, e.val)) = l.map (fun p => (Value.int .i64 p.1, p.2))) (i : Nat) :
    (Instr.findNow (.int .i64) (.int .i64 k) es i = some none ∧ aget l k = none ∧ ∀ x ∈ es, x.key ≠ .int .i64 k) ∨
    ∃ j e v, Instr.findNow (.int .i64) (.int .i64 k) es i = some (some (i + j, e.val)) ∧ es[j]? = some e ∧ e.key = .int .i64 k ∧ e.val = v ∧ aget l k = some v := by
  induction es generalizing l i with
  | nil =>
    cases l with
    | nil => exact .inl ⟨rfl, rfl, by simp⟩
    | cons p l => simp at h
  | cons e es ih =>
    cases l with
    | nil => simp at h
    | cons p l =>
      simp only [List.map_cons, List.cons.injEq, Prod.mk.injEq] at h
      obtain ⟨⟨hk, hv⟩, ht⟩ := h
      by_cases hpk : p.1 = k
      · refine .inr ⟨0, e, e.val, ?_, rfl, by rw [hk, hpk], rfl, ?_⟩
        · simp [Instr.findNow, hk, Instr.sameNow, hpk]
        · simp [aget, hpk, hv]
      · have hne : ¬ k = p.1 := fun q => hpk q.symm
        have hs : Instr.findNow (.int .i64) (.int .i64 k) (e :: es) i = Instr.findNow (.int .i64) (.int .i64 k) es (i + 1) := by
          have hkb : (k == p.1) = false := by simpa using hne
          simp [Instr.findNow, hk, Instr.sameNow, hkb]
        have hg : aget (p :: l) k = aget l k := by simp [aget, List.find?_cons, hpk]
        rw [hs, hg]
        rcases ih l ht (i + 1) with ⟨h1, h2, h3⟩ | ⟨j, e', v, h1, h2, h3, h4, h5⟩
        · refine .inl ⟨h1, h2, ?_⟩
          intro x hx
          rcases List.mem_cons.1 hx with rfl | hx
          · rw [hk]; simpa using hpk
          · exact h3 x hx
        · exact .inr ⟨j + 1, e', v, by rw [h1]; simp; omega, by simpa using h2, h3, h4, h5⟩

section
variable {P : Program} {t : TypeId} {e : TypeId} {w : World} {b : Nat} {l : List (Int × Value)}
theorem IMap.look_some (h : IMap w b l) (kt : TypeId) (ht : P.underlying t = some (.map kt e)) (hk : P.underlying kt = some (.int .i64)) (k : Int) {v : Value} (hv : aget l k = some v) (c : Bool) :
    (Instr.lookup t (.map (some b)) (.int .i64 k) c).run P w = .ok (if c then .tuple #[v, .bool true] else v) w := by
  obtain ⟨es, cl, hb, hs, hl⟩ := h
  rcases find_split k l es.toList hl 0 with ⟨_, h2, _⟩ | ⟨j, e', v', h1, h2, h3, h4, h5⟩
  · rw [hv] at h2; cases h2
  · rw [hv] at h5; cases h5
    simp [Instr.lookup, run_underlying ht, MapKept.run_getObj_map hb, MapKept.run_checkKey hk (isKey_i64 k), MapKept.run_findKey hk h1, Result.andThen, h4]
theorem IMap.look_none (h : IMap w b l) (kt : TypeId) (ht : P.underlying t = some (.map kt e)) (hk : P.underlying kt = some (.int .i64)) (k : Int) (hv : aget l k = none) {z : Value} (hz : (zeroValue e).run P w = .ok z w) (c : Bool) :
    (Instr.lookup t (.map (some b)) (.int .i64 k) c).run P w = .ok (if c then .tuple #[z, .bool false] else z) w := by
  obtain ⟨es, cl, hb, hs, hl⟩ := h
  rcases find_split k l es.toList hl 0 with ⟨h1, h2, _⟩ | ⟨j, e', v', h1, h2, h3, h4, h5⟩
  · simp [Instr.lookup, run_underlying ht, MapKept.run_getObj_map hb, MapKept.run_checkKey hk (isKey_i64 k), MapKept.run_findKey hk h1, hz, Result.andThen]
  · rw [hv] at h5; cases h5
theorem IMap.look (h : IMap w b l) (kt : TypeId) (ht : P.underlying t = some (.map kt e)) (hk : P.underlying kt = some (.int .i64)) (k : Int) {z : Value} (hz : (zeroValue e).run P w = .ok z w) (c : Bool) :
    (Instr.lookup t (.map (some b)) (.int .i64 k) c).run P w = .ok (if c then .tuple #[(aget l k).getD z, .bool (aget l k).isSome] else (aget l k).getD z) w := by
  cases hv : aget l k with
  | none => exact h.look_none kt ht hk k hv hz c
  | some v => exact h.look_some kt ht hk k hv c

theorem keyStays (P : Program) (w : World) (k : Int) : (Instr.keyThatStays (.int .i64 k) (.int .i64 k)).run P w = .ok (.int .i64 k) w := by
  simp [Instr.keyThatStays, Instr.sameBits]

theorem map_set_key (k : Int) (v : Value) : ∀ (es : List MapEntry) (l : List (Int × Value)) (j : Nat) (e : MapEntry), es.map (fun e => (e.key, e.val)) = l.map (fun p => (Value.int .i64 p.1, p.2)) → (es.map (·.key)).Nodup → es[j]? = some e → e.key = .int .i64 k →
    (es.set j { e with key := .int .i64 k, val := v }).map (fun e => (e.key, e.val)) = (l.map (fun p => if p.1 == k then (k, v) else p)).map (fun p => (Value.int .i64 p.1, p.2))
  | [], _, _, _, _, _, h, _ => by simp at h
  | x :: es, [], _, _, h, _, _, _ => by simp at h
  | x :: es, p :: l, 0, e, h, hn, hj, hk => by
    simp only [List.map_cons, List.cons.injEq, Prod.mk.injEq] at h
    simp only [List.getElem?_cons_zero, Option.some.injEq] at hj
    subst hj
    obtain ⟨⟨h1, h2⟩, h3⟩ := h
    simp only [List.map_cons, List.nodup_cons] at hn
    have hrest : ∀ q ∈ l, ¬ q.1 = k := by
      intro q hq hqk
      have : (Value.int .i64 q.1, q.2) ∈ l.map (fun p => (Value.int .i64 p.1, p.2)) := List.mem_map.2 ⟨q, hq, rfl⟩
      rw [← h3] at this
      obtain ⟨y, hy, he⟩ := List.mem_map.1 this
      refine hn.1 (List.mem_map.2 ⟨y, hy, ?_⟩)
      simp only [Prod.mk.injEq] at he
      rw [hk, he.1, hqk]
    rw [hk] at h1
    have hp : p.1 = k := by simpa using h1.symm
    have : l.map (fun p => if p.1 == k then (k, v) else p) = l := by
      conv => rhs; rw [← List.map_id l]
      exact List.map_congr_left fun q hq => by simp [hrest q hq]
    simp only [List.set_cons_zero, List.map_cons, hp, beq_self_eq_true, if_true, this, h3]
  | x :: es, p :: l, j + 1, e, h, hn, hj, hk => by
    simp only [List.map_cons, List.cons.injEq, Prod.mk.injEq] at h
    simp only [List.getElem?_cons_succ] at hj
    obtain ⟨⟨h1, h2⟩, h3⟩ := h
    simp only [List.map_cons, List.nodup_cons] at hn
    have hne : ¬ p.1 = k := by
      intro hpk
      refine hn.1 (List.mem_map.2 ⟨e, List.mem_of_getElem? hj, ?_⟩)
      rw [hk, h1, hpk]
    simp only [List.set_cons_succ, List.map_cons, map_set_key k v es l j e h3 hn.2 hj hk, hne, beq_iff_eq, if_false, h1, h2]

theorem aget_isSome_iff (l : List (Int × Value)) (k : Int) : (aget l k).isSome = (l.find? (fun p => p.1 == k)).isSome := by
  unfold aget; cases l.find? (fun p => p.1 == k) <;> rfl

theorem IMap.update (h : IMap w b l) (kt : TypeId) (ht : P.underlying t = some (.map kt e)) (hk : P.underlying kt = some (.int .i64)) (k : Int) (v : Value) :
    ∃ o, (Instr.mapUpdate t (.map (some b)) (.int .i64 k) v).run P w = .ok () (setBlock w b o) ∧ IMap (setBlock w b o) b (aset l k v) := by
  have hlt := h.lt
  obtain ⟨es, cl, hb, hs, hl⟩ := h
  rcases find_split k l es.toList hl 0 with ⟨h1, h2, h3⟩ | ⟨j, e', v', h1, h2, h3, h4, h5⟩
  · refine ⟨.map (es.push ⟨.int .i64 k, v, cl⟩) (cl + 1), ?_, es.push ⟨.int .i64 k, v, cl⟩, cl + 1, heap_setBlock_same hb _, MapKept.stamped_push hs h3, ?_⟩
    · simp [Instr.mapUpdate, run_underlying ht, MapKept.run_getObj_map hb, MapKept.run_checkKey hk (isKey_i64 k), MapKept.run_findKey hk h1, MapKept.run_setObj_map _ hb, Result.andThen, setBlock]
    · have h2' := aget_isSome_iff l k
      rw [h2] at h2'
      unfold aset
      rw [← h2']
      simp [hl]
  · refine ⟨.map (es.modify j (fun e' => { e' with key := .int .i64 k, val := v })) cl, ?_, es.modify j (fun e' => { e' with key := .int .i64 k, val := v }), cl, heap_setBlock_same hb _, ?_, ?_⟩
    · have hj : es[j]? = some e' := by simpa using h2
      simp [Instr.mapUpdate, run_underlying ht, MapKept.run_getObj_map hb, MapKept.run_checkKey hk (isKey_i64 k), MapKept.run_findKey hk h1, hj, h3, keyStays, MapKept.run_setObj_map _ hb, Result.andThen, setBlock]
    · refine MapKept.stamped_modify hs _ _ (fun _ _ => rfl) ?_
      intro x hx hxj
      have hj : es[j]? = some e' := by simpa using h2
      rw [hj] at hxj; cases hxj; exact h3.symm
    · have h2' := aget_isSome_iff l k
      rw [h5] at h2'
      unfold aset
      rw [← h2', Array.toList_modify, ChangeMaps.modify_eq_set _ _ _ _ h2, if_pos (by rfl)]
      exact map_set_key k v es.toList l j e' hl hs.2.2 h2 h3

theorem map_erase_key (k : Int) : ∀ (es : List MapEntry) (l : List (Int × Value)) (j : Nat) (e : MapEntry), es.map (fun e => (e.key, e.val)) = l.map (fun p => (Value.int .i64 p.1, p.2)) → (es.map (·.key)).Nodup → es[j]? = some e → e.key = .int .i64 k →
    (es.eraseIdx j).map (fun e => (e.key, e.val)) = (l.filter (fun p => !(p.1 == k))).map (fun p => (Value.int .i64 p.1, p.2))
  | [], _, _, _, _, _, h, _ => by simp at h
  | x :: es, [], _, _, h, _, _, _ => by simp at h
  | x :: es, p :: l, 0, e, h, hn, hj, hk => by
    simp only [List.map_cons, List.cons.injEq, Prod.mk.injEq] at h
    simp only [List.getElem?_cons_zero, Option.some.injEq] at hj
    subst hj
    obtain ⟨⟨h1, h2⟩, h3⟩ := h
    simp only [List.map_cons, List.nodup_cons] at hn
    have hrest : ∀ q ∈ l, ¬ q.1 = k := by
      intro q hq hqk
      have : (Value.int .i64 q.1, q.2) ∈ l.map (fun p => (Value.int .i64 p.1, p.2)) := List.mem_map.2 ⟨q, hq, rfl⟩
      rw [← h3] at this
      obtain ⟨y, hy, he⟩ := List.mem_map.1 this
      refine hn.1 (List.mem_map.2 ⟨y, hy, ?_⟩)
      simp only [Prod.mk.injEq] at he
      rw [hk, he.1, hqk]
    rw [hk] at h1
    have hp : p.1 = k := by simpa using h1.symm
    have : l.filter (fun p => !(p.1 == k)) = l := List.filter_eq_self.2 fun q hq => by simp [hrest q hq]
    simp only [List.eraseIdx_cons_zero, List.filter_cons, hp, beq_self_eq_true, Bool.not_true, Bool.false_eq_true, if_false, this, h3]
  | x :: es, p :: l, j + 1, e, h, hn, hj, hk => by
    simp only [List.map_cons, List.cons.injEq, Prod.mk.injEq] at h
    simp only [List.getElem?_cons_succ] at hj
    obtain ⟨⟨h1, h2⟩, h3⟩ := h
    simp only [List.map_cons, List.nodup_cons] at hn
    have hne : ¬ p.1 = k := by
      intro hpk
      refine hn.1 (List.mem_map.2 ⟨e, List.mem_of_getElem? hj, ?_⟩)
      rw [hk, h1, hpk]
    have hb : (!(p.1 == k)) = true := by simp [hne]
    simp only [List.eraseIdx_cons_succ, List.map_cons, List.filter_cons, hb, if_true, map_erase_key k es l j e h3 hn.2 hj hk, h1, h2]

theorem IMap.delete {ty : TypeId} (h : IMap w b l) (kt : TypeId) (ht : P.underlying t = some (.map kt e)) (hk : P.underlying kt = some (.int .i64)) (k : Int) :
    ∃ o, (Builtin.delete_ #[t, kt] ty #[.map (some b), .int .i64 k]).run P w = .ok (.tuple #[]) (setBlock w b o) ∧ IMap (setBlock w b o) b (adel l k) := by
  have hlt := h.lt
  obtain ⟨es, cl, hb, hs, hl⟩ := h
  rcases find_split k l es.toList hl 0 with ⟨h1, h2, h3⟩ | ⟨j, e', v', h1, h2, h3, h4, h5⟩
  · refine ⟨.map es cl, ?_, es, cl, heap_setBlock_same hb _, hs, ?_⟩
    · simp [Builtin.delete_, run_underlying ht, MapKept.run_getObj_map hb, MapKept.run_checkKey hk (isKey_i64 k), MapKept.run_findKey hk h1, MapKept.run_setObj_map _ hb, Result.andThen, setBlock]
    · rw [hl]
      have : adel l k = l := by
        unfold adel
        refine List.filter_eq_self.2 fun q hq => ?_
        have hm : (Value.int .i64 q.1, q.2) ∈ l.map (fun p => (Value.int .i64 p.1, p.2)) := List.mem_map.2 ⟨q, hq, rfl⟩
        rw [← hl] at hm
        obtain ⟨y, hy, he⟩ := List.mem_map.1 hm
        simp only [Prod.mk.injEq] at he
        have := h3 y hy
        rw [he.1] at this
        simpa using this
      rw [this]
  · have hjl : j < es.toList.length := (List.getElem?_eq_some_iff.1 h2).1
    have hjs : j < es.size := by simpa using hjl
    have hsub : (es.eraseIdxIfInBounds j).toList = es.toList.eraseIdx j := by
      unfold Array.eraseIdxIfInBounds
      rw [dif_pos hjs]
      simp
    refine ⟨.map (es.eraseIdxIfInBounds j) cl, ?_, es.eraseIdxIfInBounds j, cl, heap_setBlock_same hb _, MapKept.stamped_erase hs j, ?_⟩
    · simp [Builtin.delete_, run_underlying ht, MapKept.run_getObj_map hb, MapKept.run_checkKey hk (isKey_i64 k), MapKept.run_findKey hk h1, MapKept.run_setObj_map _ hb, Result.andThen, setBlock]
    · rw [hsub]
      exact map_erase_key k es.toList l j e' hl hs.2.2 h2 h3

theorem IMap.len {ty : TypeId} (h : IMap w b l) {kt : TypeId} (ht : P.underlying t = some (.map kt e)) :
    (Builtin.len_ #[t] ty #[.map (some b)]).run P w = .ok (.int .i64 l.length) w := by
  obtain ⟨es, cl, hb, hs, hl⟩ := h
  have : es.size = l.length := by
    have := congrArg List.length hl
    simpa using this
  simp [Builtin.len_, run_underlying ht, MapKept.run_getObj_map hb, Result.andThen, goInt, this]
end

/-! ### .. whose values are data -/
section
variable {α : Type}
def eget (l : List (Int × α)) (k : Int) : Option α := (l.find? (fun p => p.1 == k)).map (·.2)
def eset (l : List (Int × α)) (k : Int) (v : α) : List (Int × α) :=
  if (l.find? (fun p => p.1 == k)).isSome then l.map (fun p => if p.1 == k then (k, v) else p) else l ++ [(k, v)]
def edel (l : List (Int × α)) (k : Int) : List (Int × α) := l.filter (fun p => !(p.1 == k))
def encs (enc : α → Value) (l : List (Int × α)) : List (Int × Value) := l.map fun p => (p.1, enc p.2)
theorem aget_encs (enc : α → Value) (l : List (Int × α)) (k : Int) : aget (encs enc l) k = (eget l k).map enc := by
  unfold aget eget encs
  rw [List.find?_map]
  simp only [Function.comp_def, Option.map_map]
theorem aset_encs (enc : α → Value) (l : List (Int × α)) (k : Int) (v : α) : aset (encs enc l) k (enc v) = encs enc (eset l k v) := by
  unfold aset eset encs
  rw [List.find?_map]
  simp only [Function.comp_def, Option.isSome_map]
  split
  · simp only [List.map_map]
    refine List.map_congr_left fun p _ => ?_
    simp only [Function.comp_apply]
    by_cases h : p.1 = k <;> simp [h]
  · simp
theorem adel_encs (enc : α → Value) (l : List (Int × α)) (k : Int) : adel (encs enc l) k = encs enc (edel l k) := by
  unfold adel edel encs
  rw [List.filter_map]
  rfl
/-- Block b is a map over int keys; its values are data. -/
def EMap (enc : α → Value) (w : World) (b : Nat) (l : List (Int × α)) : Prop := IMap w b (encs enc l)
variable {enc : α → Value} {w : World} {b : Nat} {l : List (Int × α)}
theorem EMap.lt (h : EMap enc w b l) : b < w.heap.size := IMap.lt h
theorem EMap.same {w' : World} (h : EMap enc w b l) (e : w'.heap[b]? = w.heap[b]?) : EMap enc w' b l := IMap.same h e
theorem EMap.keep {F : Nat → Prop} {w' : World} (h : EMap enc w b l) (hk : Keeps F w w') (hf : ¬ F b) : EMap enc w' b l := IMap.keep h hk hf
theorem EMap.drew (h : EMap enc w b l) : EMap enc w.drew b l := h
theorem EMap.drewN (h : EMap enc w b l) (n : Nat) : EMap enc (w.drewN n) b l := h
theorem EMap.alloc (h : EMap enc w b l) (o : Obj) : EMap enc (w.alloc o) b l := IMap.alloc h o
theorem EMap.setCell (h : EMap enc w b l) (a : Addr) (v : Value) (hne : b ≠ a.block) : EMap enc (w.setCell a v) b l := IMap.setCell h a v hne
theorem EMap.new (enc : α → Value) (w : World) : EMap enc (w.alloc (.map #[] 0)) w.heap.size [] := IMap.new w
variable {P : Program} {t e : TypeId}
theorem EMap.look (h : EMap enc w b l) (kt : TypeId) (ht : P.underlying t = some (.map kt e)) (hk : P.underlying kt = some (.int .i64)) (k : Int) {z : α} (hz : (zeroValue e).run P w = .ok (enc z) w) :
    (Instr.lookup t (.map (some b)) (.int .i64 k) false).run P w = .ok (enc ((eget l k).getD z)) w := by
  have := IMap.look h kt ht hk k hz false
  rw [aget_encs] at this
  rw [this]
  cases eget l k <;> rfl
theorem EMap.look_ok (h : EMap enc w b l) (kt : TypeId) (ht : P.underlying t = some (.map kt e)) (hk : P.underlying kt = some (.int .i64)) (k : Int) {z : α} (hz : (zeroValue e).run P w = .ok (enc z) w) :
    (Instr.lookup t (.map (some b)) (.int .i64 k) true).run P w = .ok (.tuple #[enc ((eget l k).getD z), .bool (eget l k).isSome]) w := by
  have := IMap.look h kt ht hk k hz true
  rw [aget_encs] at this
  rw [this]
  cases eget l k <;> rfl
theorem EMap.update (h : EMap enc w b l) (kt : TypeId) (ht : P.underlying t = some (.map kt e)) (hk : P.underlying kt = some (.int .i64)) (k : Int) (v : α) :
    ∃ o, (Instr.mapUpdate t (.map (some b)) (.int .i64 k) (enc v)).run P w = .ok () (setBlock w b o) ∧ EMap enc (setBlock w b o) b (eset l k v) := by
  obtain ⟨o, h1, h2⟩ := IMap.update h kt ht hk k (enc v)
  rw [aset_encs] at h2
  exact ⟨o, h1, h2⟩
theorem EMap.delete {ty : TypeId} (h : EMap enc w b l) (kt : TypeId) (ht : P.underlying t = some (.map kt e)) (hk : P.underlying kt = some (.int .i64)) (k : Int) :
    ∃ o, (Builtin.delete_ #[t, kt] ty #[.map (some b), .int .i64 k]).run P w = .ok (.tuple #[]) (setBlock w b o) ∧ EMap enc (setBlock w b o) b (edel l k) := by
  obtain ⟨o, h1, h2⟩ := IMap.delete (ty := ty) h kt ht hk k
  rw [adel_encs] at h2
  exact ⟨o, h1, h2⟩
theorem EMap.upd (h : EMap enc w b l) (kt : TypeId) (ht : P.underlying t = some (.map kt e)) (hk : P.underlying kt = some (.int .i64)) (k : Int) (v : α) :
    ∃ w', (Instr.mapUpdate t (.map (some b)) (.int .i64 k) (enc v)).run P w = .ok () w' ∧ EMap enc w' b (eset l k v) ∧ Keeps (fun x => x = b) w w' := by
  obtain ⟨o, h1, h2⟩ := h.update kt ht hk k v
  exact ⟨_, h1, h2, (Keeps.refl _ _).setBlock _ _ (.inl rfl)⟩
theorem EMap.del {ty : TypeId} (h : EMap enc w b l) (kt : TypeId) (ht : P.underlying t = some (.map kt e)) (hk : P.underlying kt = some (.int .i64)) (k : Int) :
    ∃ w', (Builtin.delete_ #[t, kt] ty #[.map (some b), .int .i64 k]).run P w = .ok (.tuple #[]) w' ∧ EMap enc w' b (edel l k) ∧ Keeps (fun x => x = b) w w' := by
  obtain ⟨o, h1, h2⟩ := h.delete (ty := ty) kt ht hk k
  exact ⟨_, h1, h2, (Keeps.refl _ _).setBlock _ _ (.inl rfl)⟩
theorem EMap.len {ty : TypeId} (h : EMap enc w b l) {kt : TypeId} (ht : P.underlying t = some (.map kt e)) :
    (Builtin.len_ #[t] ty #[.map (some b)]).run P w = .ok (.int .i64 l.length) w := by
  have := IMap.len (ty := ty) h ht
  rw [this]; simp [encs]
end
end Go.Proofs.YtnheibcjcgacpaaGreatDoor
