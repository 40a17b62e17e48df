/- 'append(b, s...)', s a string, b an own row of bytes. -/
import Derived.Test.YtmlolkjgniodpaaScrS
set_option linter.unusedVariables false
set_option linter.unusedSimpArgs false
namespace Go.Proofs.Ytmlolkjgniodpaa
open Go.RowKit Go.ChangeMaps
section
variable {P : Program}
theorem fc_str (w : World) (l : Bs) : (Builtin.firstCells 1 l.length (.string (bs l))).run P w = .ok (u8s l).toArray w := by
  have h : ((Array.map (fun b : UInt8 => Value.int IntKind.u8 (b.toNat : Int)) (bs l).data).extract 0 l.length) = (u8s l).toArray := by
    have e : (Array.map (fun b : UInt8 => Value.int IntKind.u8 (b.toNat : Int)) (bs l).data) = (u8s l).toArray := by
      unfold u8s bs; simp
    rw [e]
    simp [List.take_of_length_le (Nat.le_of_eq (u8s_length l))]
  simp [Builtin.firstCells, h]
theorem run_append_str (w : World) (t u ty e : TypeId) (i : TypeInfo) (z : Value) (ht : P.underlying t = some (.slice e)) (hu : P.underlying u = some .string) (hi : P.info? e = some i) (hz : i.zero = some z)
    (hsize : i.size = 1) (hby : i.bytes = 1) (hzs : z.cells.size = 1) (v : Value) (n : Nat) (xs : List Value) (hown : Own w e 1 v n xs) (l : Bs) (hl : n + l.length ≤ 1000000000000) :
    ∃ v' w', (Builtin.append_ #[t, u] ty #[v, .string (bs l)]).run P w = .ok v' w' ∧ Own w' e 1 v' (n + l.length) (xs ++ u8s l) ∧ Keeps (fun b => v.ownBlock = some b) w w' ∧ (v'.ownBlock = v.ownBlock ∨ v'.ownBlock = some w.heap.size) := by
  have hlen : (xs ++ u8s l).length = (n + l.length) * 1 := by rw [List.length_append, hown.1, u8s_length, Nat.mul_one, Nat.mul_one]
  have h63' : ¬ (9223372036854775807 < ((n : Int) + (l.length : Int))) := by omega
  have hbsz : (bs l).size = l.length := bs_size l
  have hf := fun w => fc_str (P := P) w l
  have grown : ∀ (old : Nat), old < n + l.length →
      Own (w.drew.alloc (.cells (xs.toArray ++ (u8s l).toArray ++ Builtin.zeroCells z.cells (grownCap w (n + l.length) old e - (n + l.length))) e)) e 1 (.slice (some ⟨w.heap.size, 0, none⟩) (n + l.length) (grownCap w (n + l.length) old e)) (n + l.length) (xs ++ u8s l) ∧
      Keeps (fun _ => False) w (w.drew.alloc (.cells (xs.toArray ++ (u8s l).toArray ++ Builtin.zeroCells z.cells (grownCap w (n + l.length) old e - (n + l.length))) e)) := by
    intro old ho
    have hge := grownCap_ge w (n + l.length) old e
    have hcm : grownCap w (n + l.length) old e ≤ maxLen := grownCap_le_maxLen w (n + l.length) old e (by unfold maxLen; omega)
    refine ⟨⟨hlen, .inr ⟨w.heap.size, _, _, rfl, Nat.zero_le _, heap_alloc_new w.drew _, hge, hcm, ?_, ?_⟩⟩, ((Keeps.refl _ _).drew).alloc _⟩
    · simp only [Array.size_append, List.size_toArray, size_zeroCells, hzs, hown.1, u8s_length, Nat.mul_one]
      omega
    · simp only [Array.toList_append, List.append_assoc]
      rw [← List.append_assoc, ← hlen]
      exact List.take_left
  rcases hown.2 with ⟨rfl, rfl⟩ | ⟨g, cap, cur, rfl, hbg, hg, hnc, hcm, hcs, htake⟩
  · have hx : xs = [] := List.eq_nil_of_length_eq_zero (by simpa using hown.1)
    subst hx
    by_cases hm : l.length = 0
    · have hl0 : l = [] := List.eq_nil_of_length_eq_zero hm
      subst hl0
      refine ⟨.slice none 0 0, w, ?_, Own.nil _ _ _, Keeps.refl _ _, .inl rfl⟩
      have hf0 := hf w
      simp only [List.length_nil] at hf0
      simp [Builtin.append_, run_underlying ht, run_underlying hu, sizeOf, typeInfo, hi, hsize, Builtin.lenOf, hbsz, hf0]
    · have hgr := grown 0 (by omega)
      have h48' : ¬ (281474976710656 < Builtin.nextslicecap l.length 0) := by rw [nextslicecap_zero (by omega)]; omega
      have h63n : ¬ (9223372036854775807 < (l.length : Int)) := by omega
      refine ⟨_, _, ?_, hgr.1, hgr.2.mono (fun _ _ e => e.elim), .inr rfl⟩
      have hf1 := hf w.drew
      simp [Builtin.append_, run_underlying ht, run_underlying hu, sizeOf, typeInfo, zeroValue, hi, hz, hsize, hby, Builtin.lenOf, hbsz, hm, h63n, h48', Question.forced, run_firstCells_none, hf1, newRow, grownCap]
  · by_cases hroom : n + l.length ≤ cap
    · have hfit : n * 1 + (u8s l).length ≤ cur.size := by rw [u8s_length, hcs]; omega
      have hst := run_storeCells_at P g (n * 1) e (u8s l) 0 cur w hg (by simpa using hfit) (Scr.one_u8s l)
      simp only [Nat.add_zero, Nat.mul_one] at hst
      have hf0 := hf w
      refine ⟨.slice (some ⟨g, 0, none⟩) (n + l.length) cap, w.setRow g (cur.toList.take n ++ u8s l ++ cur.toList.drop (n + (u8s l).length)).toArray, ?_, ⟨hlen, .inr ⟨g, cap, _, rfl, hbg, setRow_heap w g cur _ e _ hg, hroom, hcm, ?_, ?_⟩⟩, ?_, .inl rfl⟩
      · simp [Builtin.append_, run_underlying ht, run_underlying hu, sizeOf, typeInfo, hi, hsize, Builtin.lenOf, hbsz, hroom, hf0, Addr.add_lit, hst]
      · simp only [List.size_toArray, List.length_append, List.length_take, List.length_drop, Array.length_toList]
        omega
      · rw [Nat.mul_one] at htake
        rw [htake, ← hlen]
        exact List.take_left
      · exact ⟨rfl, rfl, rfl, by simp, fun k _ hk => setRow_other w g k _ (fun e => hk (by simp [Value.ownBlock, e]))⟩
    · have hn : ¬ (n + l.length ≤ cap) := hroom
      have holds : ∀ j u, xs[j]? = some u → w.cell? ((⟨g, 0, none⟩ : Addr).add j) = some u := World.ownsRow.cells (w := w) hown (g := g) rfl
      have hfo := run_firstCells_some (P := P) w.drew 1 n ⟨g, 0, none⟩ n cap xs (by rw [hown.1]) (by simpa using holds)
      have h48' : ¬ (281474976710656 < Builtin.nextslicecap (n + l.length) cap) := by
        have := growslice_fits (need := n + l.length) (old := cap) (by omega) (bytes := 1) (by omega)
        omega
      have hgr := grown cap (by omega)
      refine ⟨_, _, ?_, hgr.1, hgr.2.mono (fun _ _ e => e.elim), .inr rfl⟩
      have hf1 := hf w.drew
      simp [Builtin.append_, run_underlying ht, run_underlying hu, sizeOf, typeInfo, zeroValue, hi, hz, hsize, hby, Builtin.lenOf, hbsz, hn, h63', h48', Question.forced, hf1, hfo, newRow, grownCap]
      congr 2
      apply Array.ext'
      simp [List.append_assoc]
theorem wpList_appS {t u e : Nat} (T : SlT P t e 1 1) (hu : P.underlying u = some .string) (w : World) {ops : Array Oper} {rest : List Oper} {o : Oper} {a : Act} {Q : Exit → Act → World → Prop} (hgd : o.guard = none) (s x : Operand)
    (ho : o.op = .call { callee := .builtin .append, args := #[s, x], argTypes := #[t, u] }) (v : Value) (n : Nat) (xs : List Value) (hs : a.eval s = v) (hown : Own w e 1 v n xs) (l : Bs) (hx : a.eval x = .string (bs l)) (hl : n + l.length ≤ 1000000000000)
    (h : ∀ v' w', Own w' e 1 v' (n + l.length) (xs ++ u8s l) → Keeps (fun b => v.ownBlock = some b) w w' → (v'.ownBlock = v.ownBlock ∨ v'.ownBlock = some w.heap.size) → wpList P ops Q rest (a.put o.dst v') w') :
    wpList P ops Q (o :: rest) a w := by
  obtain ⟨i, z, hi, hz, h2, h3, h4⟩ := T.info
  refine wpList_plain hgd fun K hK => ?_
  obtain ⟨v', w', hr, r2, r3, r4⟩ := run_append_str (P := P) w t u o.type e i z T.ht hu hi hz h2 h3 h4 v n xs hown l hl
  unfold Oper.wp execOp
  simp only [ho, resolve, invoke, builtin, Sem.run_bind, Sem.run_pure, Result.andThen_ok, List.map_toArray, List.map_cons, List.map_nil, hs, hx, hr]
  exact hK _ _ (h v' w' r2 r3 r4)
theorem step_appS {t u e : Nat} (T : SlT P t e 1 1) (hu : P.underlying u = some .string) (w : World) {ops : Array Oper} {o : Oper} {a : Act} {K : Act → World → Prop} {Q : Exit → Act → World → Prop} {E : Prop} (hgd : o.guard = none) (s x : Operand)
    (ho : o.op = .call { callee := .builtin .append, args := #[s, x], argTypes := #[t, u] }) (v : Value) (n : Nat) (xs : List Value) (hs : a.eval s = v) (hown : Own w e 1 v n xs) (l : Bs) (hx : a.eval x = .string (bs l)) (hl : n + l.length ≤ 1000000000000)
    (h : ∀ v' w', Own w' e 1 v' (n + l.length) (xs ++ u8s l) → Keeps (fun b => v.ownBlock = some b) w w' → (v'.ownBlock = v.ownBlock ∨ v'.ownBlock = some w.heap.size) → K (a.put o.dst v') w') :
    if Region.wanted o (yielded ops a.tmps) = true then Oper.wp P o a w K Q else E := by
  obtain ⟨i, z, hi, hz, h2, h3, h4⟩ := T.info
  have hw : Region.wanted o (yielded ops a.tmps) = true := by simp [Region.wanted, hgd]
  rw [if_pos hw]
  obtain ⟨v', w', hr, r2, r3, r4⟩ := run_append_str (P := P) w t u o.type e i z T.ht hu hi hz h2 h3 h4 v n xs hown l hl
  unfold Oper.wp execOp
  simp only [ho, resolve, invoke, builtin, Sem.run_bind, Sem.run_pure, Result.andThen_ok, List.map_toArray, List.map_cons, List.map_nil, hs, hx, hr]
  exact h v' w' r2 r3 r4
end
namespace Scr
theorem phand_any (w : World) (b xb : Nat) (v : Value) (out : Bs) (bad : Bool) (s : Stp) (hp : PAt w b v out bad) (hx : XAt w xb s) (hne : b ≠ xb) (hvx : v.ownBlock ≠ some xb) (hl : out.length ≤ 100000000) (hh0 : 0 ≤ s.handle) (hh1 : s.handle < 18446744073709551616) :
    Calls Try.prog 77 #[.pointer (some ⟨b, 0, none⟩), .pointer (some ⟨xb, 0, none⟩)] w fun e w' => e = .returned (.tuple #[]) ∧
      ∃ v', PAt w' b v' (out ++ hb s) (bad || !okH s) ∧ XAt w' xb { s with back := 0, handle := 0 } ∧ (v'.ownBlock = v.ownBlock ∨ ∀ g, v'.ownBlock = some g → w.heap.size ≤ g) ∧ Keeps (fun x => x = b ∨ v.ownBlock = some x ∨ x = xb) w w' := by
  unfold hb
  by_cases hz : s.handle = 0
  · rw [if_pos hz]
    exact phand0 w b xb v out bad s hp hx hne hvx hl hz
  · rw [if_neg hz]
    exact phand1 w b xb v out bad s hp hx hne hvx hl hz hh0 hh1
/-- The state of a pen and its step amid the writing of it. -/
structure Pen (w0 : World) (b xb : Nat) (v0 : Value) (w : World) (v : Value) (out : Bs) (bad : Bool) (s : Stp) : Prop where
  p : PAt w b v out bad
  x : XAt w xb s
  own : v.ownBlock = v0.ownBlock ∨ ∀ g, v.ownBlock = some g → w0.heap.size ≤ g ∧ g ≠ xb
  k : Keeps (fun x => x = b ∨ v0.ownBlock = some x) w0 w
theorem Pen.vx {w0 : World} {b xb : Nat} {v0 : Value} {w : World} {v : Value} {out : Bs} {bad : Bool} {s : Stp} (h : Pen w0 b xb v0 w v out bad s) (h0 : v0.ownBlock ≠ some xb) : v.ownBlock ≠ some xb := fun e => by
  rcases h.own with q | q
  · exact h0 (by rw [← q]; exact e)
  · exact (q _ e).2 rfl
/-- A call that writes at b, at the pen's own bytes, at xb. -/
theorem Pen.call {w0 : World} {b xb : Nat} {v0 : Value} {w w' : World} {v v' : Value} {out out' : Bs} {bad bad' : Bool} {s s' : Stp} (h : Pen w0 b xb v0 w v out bad s) (hx0 : w0.heap.size ≤ xb) (hp : PAt w' b v' out' bad') (hx : XAt w' xb s')
    (at' : v'.ownBlock = v.ownBlock ∨ ∀ g, v'.ownBlock = some g → w.heap.size ≤ g) (k : Keeps (fun x => x = b ∨ v.ownBlock = some x ∨ x = xb) w w') : Pen w0 b xb v0 w' v' out' bad' s' := by
  have hs := h.k.size
  have hxl := lt_of h.x
  refine ⟨hp, hx, ?_, h.k.trans' k (fun x hx hl => ?_)⟩
  · rcases at' with q | q
    · rcases h.own with r | r
      · exact .inl (q.trans r)
      · exact .inr (fun g hg => r g (by rw [← q]; exact hg))
    · exact .inr (fun g hg => by have := q g hg; omega)
  · rcases hx with e | e | e
    · exact .inl e
    · rcases h.own with r | r
      · exact .inr (by rw [← r]; exact e)
      · have := r x e; omega
    · omega
end Scr
end Go.Proofs.Ytmlolkjgniodpaa
