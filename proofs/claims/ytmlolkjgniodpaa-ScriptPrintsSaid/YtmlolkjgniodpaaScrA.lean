/- The script package's tape: bytes, one, num, text. -/
import Derived.Test.YtmlolkjgniodpaaScrQ
import Derived.Test.YtmlolkjgniodpaaStep
import Derived.Test.YtmlolkjgniodpaaAppN
import Derived.Laws.IdiomStrings
import Derived.Laws.DeepStrings4
import Derived.Laws.BitsAllLaws
import Derived.BigQuiet
import Derived.BigRegion
import Derived.Deep.QuietTactic
set_option linter.unusedVariables false
set_option linter.unusedSimpArgs false
namespace Go.Proofs.Ytmlolkjgniodpaa
open Go.RowKit Go.ChangeMaps
attribute [go_sem] bs_size bs_extract
section
variable {P : Program} (w : World)
theorem bs_getElem (l : Bs) (i : Nat) (h : i < (bs l).size) : (bs l)[i] = l.getD i 0 := by
  have h' : i < l.length := by rw [bs_size] at h; exact h
  have : (bs l)[i] = l[i] := by
    show (bs l).data[i] = _
    simp [bs]
  refine this.trans ?_
  simp [List.getD_eq_getElem?_getD, List.getElem?_eq_getElem h']
/-- A byte of a row. -/
def byteAt (l : Bs) (i : Nat) : Int := ((l.getD i 0).toNat : Int)
theorem byteAt_bd (l : Bs) (i : Nat) : 0 ≤ byteAt l i ∧ byteAt l i ≤ 255 := by
  unfold byteAt
  have : (l.getD i 0).toNat < 256 := UInt8.toNat_lt _
  omega
@[go_sem] theorem run_index_bs (t : TypeId) (l : Bs) (k : IntKind) (i : Int) (h : P.underlying t = some .string) :
    (Instr.index t (.string (bs l)) (.int k i)).run P w =
      if 0 ≤ i ∧ i < (l.length : Int) then .ok (.int .u8 (byteAt l i.toNat)) w
      else (boundsPanic k i (bs l).size .index).run P w := by
  rw [run_index_string w t (bs l) k i h]
  by_cases hi : 0 ≤ i ∧ i < (l.length : Int)
  · rw [dif_pos (by rw [bs_size]; exact hi), if_pos hi, bs_getElem]; rfl
  · rw [dif_neg (by rw [bs_size]; exact hi), if_neg hi]
end
attribute [-go_sem] run_index_string
/-- A row of bytes as cells. -/
def u8s (l : Bs) : List Value := l.map fun c => .int .u8 (c.toNat : Int)
theorem u8s_length (l : Bs) : (u8s l).length = l.length := by simp [u8s]
theorem u8s_append (l m : Bs) : u8s (l ++ m) = u8s l ++ u8s m := by simp [u8s]
theorem string_of_bytes (w : World) (A : Option Addr) (n cap : Nat) (l : Bs) (hn : l.length = n) (hr : Rd w A (u8s l)) (hA : A = none → n = 0) :
    (convert 116 9 (.slice A n cap)).run Try.prog w = .ok (.string (bs l)) w := by
  subst hn
  cases A with
  | none =>
    have : l = [] := List.eq_nil_of_length_eq_zero (hA rfl)
    subst this
    exact run_convert_bytes_nil (P := Try.prog) w 116 5 Try.underlying116 Try.underlying5 0 cap _ Try.underlying9
  | some a =>
    refine run_convert_bytes_back (P := Try.prog) w 116 9 5 a cap l Try.underlying116 Try.underlying5 Try.underlying9 ?_
    intro j hj
    have : (u8s l)[j]? = some (.int .u8 (l[j].toNat : Int)) := by simp [u8s, List.getElem?_eq_getElem hj]
    obtain ⟨ad, e, hc⟩ := hr j _ this
    cases e
    exact hc
theorem kset (w : World) (b i : Nat) (v : Value) : Keeps (fun x => x = b) w (w.setCell ⟨b, i, none⟩ v) := (Keeps.refl _ _).setCell _ _ (.inl rfl)
theorem slBytes : SlT Try.prog 116 5 1 1 := SlT.mk' (z := .int .u8 0) Try.underlying116 (by kernel_rfl) rfl (by decide)
theorem madeZeros (m : Nat) : madeCells #[.int .u8 0] m = (u8s (List.replicate m 0)).toArray := by
  unfold u8s
  apply Array.ext
  · simp [madeCells]
  · intro i h1 h2
    simp [madeCells, Nat.mod_one]
theorem rd_new (w : World) (xs : List Value) (e : TypeId) : Rd (w.alloc (.cells xs.toArray e)) (some ⟨w.heap.size, 0, none⟩) xs := fun j u hu => ⟨_, rfl, cells_new w xs e j u hu⟩
theorem make_bytes (w : World) (m : Nat) (hm : m ≤ 1000000) : (Instr.makeSlice 116 (.int .i64 m) (.int .i64 m)).run Try.prog w = .ok (.slice (some ⟨w.heap.size, 0, none⟩) m m) (w.alloc (.cells (u8s (List.replicate m 0)).toArray 5)) := by
  obtain ⟨i, z, hi, hz, h2, h3, h4⟩ := slBytes.info
  have hz' : z = .int .u8 0 := by
    have h : (Try.prog.info? 5).map (fun i => i.zero) = some (some (.int .u8 0)) := by kernel_rfl
    rw [hi] at h; simp at h; rw [hz] at h; simpa using h
  subst hz'
  have := run_make (P := Try.prog) w 116 5 i _ slBytes.ht hi hz .i64 .i64 m m (by omega) (by omega) (by rw [h3]; omega) (by omega)
  rw [this, h2]
  have e : madeCells (Value.int IntKind.u8 0).cells ((m : Int).toNat * 1) = (u8s (List.replicate m 0)).toArray := by
    rw [Int.toNat_natCast, Nat.mul_one]; exact madeZeros m
  rw [e]; simp
theorem string_made (w : World) (l : Bs) (m cap : Nat) (hm : l.length = m) : (convert 116 9 (.slice (some ⟨w.heap.size, 0, none⟩) m cap)).run Try.prog (w.alloc (.cells (u8s l).toArray 5)) = .ok (.string (bs l)) (w.alloc (.cells (u8s l).toArray 5)) :=
  string_of_bytes _ _ m cap l hm (rd_new _ _ _) (by simp)
namespace Scr
def TAt (w : World) (b : Nat) (t : Tp) : Prop := w.heap[b]? = some (.cells #[.string (bs t.rest), .bool t.short] 111 (0, 0))
theorem TAt.keep {F : Nat → Prop} {w w' : World} {b : Nat} {t : Tp} (h : TAt w b t) (k : Keeps F w w') (hb : ¬ F b) : TAt w' b t := k.at h hb
theorem TAt.cells {w : World} {b : Nat} {t : Tp} (h : TAt w b t) : w.cell? ⟨b, 0, none⟩ = some (.string (bs t.rest)) ∧ w.cell? ⟨b, 1, none⟩ = some (.bool t.short) ∧ w.frozen? ⟨b, 0, none⟩ = false ∧ w.frozen? ⟨b, 1, none⟩ = false :=
  ⟨cell_of h 0 rfl, cell_of h 1 rfl, free_of h 0, free_of h 1⟩
set_option maxRecDepth 100000 in
set_option maxHeartbeats 600000 in
theorem bytes_any (w : World) (b : Nat) (t : Tp) (n : Nat) (h : TAt w b t) (hn : n ≤ 255) (hl : t.rest.length ≤ 1000000) :
    Calls Try.prog 79 #[.pointer (some ⟨b, 0, none⟩), .int .i64 n] w fun e w' => e = .returned (.string (bs (tb n t).1)) ∧ TAt w' b (tb n t).2 ∧ Keeps (fun x => x = b) w w' := by
  obtain ⟨c0, c1, f0, f1⟩ := h.cells
  by_cases hlt : t.rest.length < n
  · have e : tb n t = (List.replicate (max n 1) 0, ⟨[], true⟩) := by unfold tb; rw [if_pos hlt]
    rw [e]
    clear e
    obtain ⟨m, hm⟩ : ∃ m, max n 1 = m := ⟨_, rfl⟩
    rw [hm]
    have hm1 : 1 ≤ m ∧ m ≤ 255 := by omega
    obtain ⟨hm1, hm2⟩ := hm1
    have mx : ∀ (ts : Array TypeId) (ty : TypeId) (w : World), (Builtin.max_ ts ty #[.int .i64 n, .int .i64 1]).run Try.prog w = .ok (.int .i64 m) w := by
      intro ts ty w
      have : (if (n : Int) < 1 then (1 : Int) else n) = m := by split <;> omega
      simp [Builtin.max_, Builtin.max2, this]
    clear hm
    have mk : ∀ w, (Instr.makeSlice 116 (.int .i64 m) (.int .i64 m)).run Try.prog w = .ok (.slice (some ⟨w.heap.size, 0, none⟩) m m) (w.alloc (.cells (u8s (List.replicate m 0)).toArray 5)) := fun w => make_bytes w m (by omega)
    have cv := fun w => string_made w (List.replicate m 0) m m (by simp)
    obtain ⟨w1, hw1⟩ : ∃ w1, (w.setCell ⟨b, 0, none⟩ (.string ⟨#[]⟩)).setCell ⟨b, 1, none⟩ (.bool true) = w1 := ⟨_, rfl⟩
    have hfin : TAt w1 b ⟨[], true⟩ ∧ Keeps (fun x => x = b) w w1 := by
      rw [← hw1]
      have a1 := set_of h 0 (.string ⟨#[]⟩)
      exact ⟨set_of a1 1 _, (kset w b 0 _).trans (kset _ b 1 _)⟩
    have HF := Hid.of hfin
    clear hfin h
    go_enter Try.func79, Try.ntmps79
    go_wp2
    go_ret
    have hl1 := lt_of HF.out.1
    exact ⟨rfl, HF.out.1.keep ((Keeps.refl (fun _ => False) w1).alloc _) (fun x => x), HF.out.2.alloc _⟩
  · have e : tb n t = (t.rest.take n, ⟨t.rest.drop n, t.short⟩) := by unfold tb; rw [if_neg hlt]
    rw [e]
    clear e
    have hle : n ≤ t.rest.length := by omega
    obtain ⟨w1, hw1⟩ : ∃ w1, w.setCell ⟨b, 0, none⟩ (.string (bs (t.rest.drop n))) = w1 := ⟨_, rfl⟩
    have hfin : TAt w1 b ⟨t.rest.drop n, t.short⟩ ∧ Keeps (fun x => x = b) w w1 := by
      rw [← hw1]
      exact ⟨set_of h 0 _, (Keeps.refl _ _).setCell _ _ (.inl rfl)⟩
    have HF := Hid.of hfin
    clear hfin h
    go_enter Try.func79, Try.ntmps79
    go_wp2
    go_ret
    exact ⟨rfl, HF.out⟩
theorem tb_len (n : Nat) (t : Tp) : (tb n t).1.length = if t.rest.length < n then max n 1 else n := by
  unfold tb; split
  · simp
  · simp; omega
theorem tb_pos (n : Nat) (t : Tp) (h : 1 ≤ n) : n ≤ (tb n t).1.length := by rw [tb_len]; split <;> omega
theorem tb_rest (n : Nat) (t : Tp) : (tb n t).2.rest.length ≤ t.rest.length := by
  unfold tb; split
  · simp
  · simp
set_option maxRecDepth 100000 in
set_option maxHeartbeats 600000 in
theorem one_any (w : World) (b : Nat) (t : Tp) (h : TAt w b t) (hl : t.rest.length ≤ 1000000) :
    Calls Try.prog 70 #[.pointer (some ⟨b, 0, none⟩)] w fun e w' => e = .returned (.int .i64 (tone t).1) ∧ TAt w' b (tone t).2 ∧ Keeps (fun x => x = b) w w' := by
  have q := bytes_any w b t 1 h (by omega) hl
  have h1 : 0 < (tb 1 t).1.length := tb_pos 1 t (Nat.le_refl _)
  have e0 : (tone t).1 = byteAt (tb 1 t).1 0 := rfl
  have e1 : (tone t).2 = (tb 1 t).2 := rfl
  rw [e0, e1]
  generalize (tb 1 t).1 = l at *
  generalize (tb 1 t).2 = t' at *
  obtain ⟨hb, hc⟩ := byteAt_bd l 0
  clear h e0 e1
  go_enter Try.func70, Try.ntmps70
  go_wp2_with fail
  refine q.mono ?_
  rintro e w1 ⟨rfl, h1', k1⟩
  go_wp2
  go_ret
  exact ⟨rfl, h1', k1⟩
theorem or_disj (a b k : Nat) (ha : a < 2 ^ k) : a ||| (b * 2 ^ k) = a + b * 2 ^ k := by
  have := Nat.two_pow_add_eq_or_of_lt ha b
  rw [Nat.mul_comm b, Nat.or_comm, ← this, Nat.add_comm]
theorem u16_two (a b : Int) (h1 : 0 ≤ a) (h2 : a ≤ 255) (h3 : 0 ≤ b) (h4 : b ≤ 255) : bits .or .u16 a (b * 256) = a + 256 * b := by
  rw [u16_or a (b * 256) h1 (by omega) (by omega) (by omega)]
  obtain ⟨x, rfl⟩ := Int.eq_ofNat_of_zero_le h1
  obtain ⟨y, rfl⟩ := Int.eq_ofNat_of_zero_le h3
  have := or_disj x y 8 (by omega)
  have e : ((y : Int) * 256).toNat = y * 2 ^ 8 := by omega
  rw [e, Int.toNat_natCast, this]
  omega
def nm2 (a b : Int) : Int := if 32768 ≤ a + 256 * b then a + 256 * b - 65536 else a + 256 * b
set_option maxRecDepth 100000 in
set_option maxHeartbeats 600000 in
theorem num_any (w : World) (b : Nat) (t : Tp) (h : TAt w b t) (hl : t.rest.length ≤ 1000000) :
    Calls Try.prog 72 #[.pointer (some ⟨b, 0, none⟩)] w fun e w' => e = .returned (.int .i64 (tnum t).1) ∧ TAt w' b (tnum t).2 ∧ Keeps (fun x => x = b) w w' := by
  have q := bytes_any w b t 2 h (by omega) hl
  have h1 : 2 ≤ (tb 2 t).1.length := tb_pos 2 t (by omega)
  have e0 : (tnum t).1 = nm2 (byteAt (tb 2 t).1 0) (byteAt (tb 2 t).1 1) := rfl
  have e1 : (tnum t).2 = (tb 2 t).2 := rfl
  rw [e0, e1]
  generalize (tb 2 t).1 = l at *
  generalize (tb 2 t).2 = t' at *
  obtain ⟨hb, hc⟩ := byteAt_bd l 0
  obtain ⟨hd, he⟩ := byteAt_bd l 1
  clear h e0 e1
  go_enter Try.func72, Try.ntmps72
  go_wp2_with fail
  refine q.mono ?_
  rintro e w1 ⟨rfl, h1', k1⟩
  go_wp2
  go_quiet (fail)
  go_wp2
  go_ret
  refine ⟨?_, h1', k1.drewN _⟩
  rw [u16_two _ _ hb hc hd he]
  unfold nm2
  show Ending.returned (.int .i64 _) = _
  congr 2
  have e : ∀ x : Int, IntKind.i16.wrap x = if 32768 ≤ x % 65536 then x % 65536 - 65536 else x % 65536 := by
    intro x
    have h0 : IntKind.i16.wrap x = if (true && decide (x % 65536 ≥ 32768)) = true then x % 65536 - 65536 else x % 65536 := rfl
    rw [h0]; simp
  rw [e]
  unfold wrap64
  split <;> split <;> omega
end Scr
end Go.Proofs.Ytmlolkjgniodpaa
