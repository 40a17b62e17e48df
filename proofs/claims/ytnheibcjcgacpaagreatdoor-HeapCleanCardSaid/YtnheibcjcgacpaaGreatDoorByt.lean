/- Bytes: rows of bytes, strings of them, what is made, copied, cut off, cloned. -/
import Derived.Test.YtnheibcjcgacpaaGreatDoorRd
import Derived.Test.YtnheibcjcgacpaaGreatDoorOut
import Derived.Laws.IdiomStrings
import Derived.Laws.DeepStrings4
import Derived.Laws.BitsAllLaws
import Derived.Laws.CopyRow
import Derived.Laws.CopyOwn
import Derived.Laws.MakeOwn
set_option linter.unusedVariables false
set_option linter.unusedSimpArgs false
namespace Go.Proofs.YtnheibcjcgacpaaGreatDoor
open Go.RowKit Go.ChangeMaps
abbrev Bs := List UInt8
def bs (l : Bs) : ByteArray := ⟨l.toArray⟩
theorem bs_size (l : Bs) : (bs l).size = l.length := by simp [bs, ByteArray.size]
theorem bs_extract (l : Bs) (i j : Nat) : (bs l).extract i j = bs ((l.take j).drop i) := by
  unfold bs
  apply ByteArray.ext
  simp [ByteArray.data_extract, List.drop_take]
theorem bs_inj {l m : Bs} (h : bs l = bs m) : l = m := by
  unfold bs at h
  simpa using h
theorem bs_self (s : ByteArray) : s = bs s.data.toList := by unfold bs; rfl
theorem bs_append (l m : Bs) : bs l ++ bs m = bs (l ++ m) := by
  unfold bs; apply ByteArray.ext; simp
attribute [go_sem] bs_size bs_extract
/-- A row of bytes as cells. -/
def u8s (l : Bs) : List Value := l.map fun c => .int .u8 (c.toNat : Int)
theorem u8s_length (l : Bs) : (u8s l).length = l.length := by simp [u8s]
theorem u8s_append (l m : Bs) : u8s (l ++ m) = u8s l ++ u8s m := by simp [u8s]
theorem u8s_one (l : Bs) : ∀ v ∈ u8s l, v.oneCell' = true := by
  intro v hv
  obtain ⟨c, _, rfl⟩ := List.mem_map.1 hv
  rfl
theorem string_of_bytes (w : World) (A : Option Addr) (n cap : Nat) (l : Bs) (hn : l.length = n) (hr : Rd w A (u8s l)) (hA : A = none → n = 0) :
    (convert 65 9 (.slice A n cap)).run Tryz.prog w = .ok (.string (bs l)) w := by
  subst hn
  cases A with
  | none =>
    have : l = [] := List.eq_nil_of_length_eq_zero (hA rfl)
    subst this
    exact run_convert_bytes_nil (P := Tryz.prog) w 65 5 Tryz.underlying65 Tryz.underlying5 0 cap _ Tryz.underlying9
  | some a =>
    refine run_convert_bytes_back (P := Tryz.prog) w 65 9 5 a cap l Tryz.underlying65 Tryz.underlying5 Tryz.underlying9 ?_
    intro j hj
    have : (u8s l)[j]? = some (.int .u8 (l[j].toNat : Int)) := by simp [u8s, List.getElem?_eq_getElem hj]
    obtain ⟨ad, e, hc⟩ := hr j _ this
    cases e
    exact hc
theorem slBytes : SlT Tryz.prog 65 5 1 1 := SlT.mk' (z := .int .u8 0) Tryz.underlying65 (by kernel_rfl) rfl (by decide)
theorem u8_size : (Tryz.prog.info? 5).map (·.size) = some 1 := by
  obtain ⟨i, z, hi, hz, h2, h3, h4⟩ := slBytes.info
  rw [hi]; simpa using h2
theorem madeZeros (m : Nat) : madeCells #[.int .u8 0] m = (u8s (List.replicate m 0)).toArray := by
  unfold u8s
  apply Array.ext
  · simp [madeCells]
  · intro i h1 h2
    simp [madeCells, Nat.mod_one]
theorem rd_new (w : World) (xs : List Value) (e : TypeId) : Rd (w.alloc (.cells xs.toArray e)) (some ⟨w.heap.size, 0, none⟩) xs := fun j u hu => ⟨_, rfl, cells_new w xs e j u hu⟩
theorem make_bytes (w : World) (m : Nat) (hm : m ≤ 1000000) : (Instr.makeSlice 65 (.int .i64 m) (.int .i64 m)).run Tryz.prog w = .ok (.slice (some ⟨w.heap.size, 0, none⟩) m m) (w.alloc (.cells (u8s (List.replicate m 0)).toArray 5)) := by
  obtain ⟨i, z, hi, hz, h2, h3, h4⟩ := slBytes.info
  have hz' : z = .int .u8 0 := by
    have h : (Tryz.prog.info? 5).map (fun i => i.zero) = some (some (.int .u8 0)) := by kernel_rfl
    rw [hi] at h; simp at h; rw [hz] at h; simpa using h
  subst hz'
  have := run_make (P := Tryz.prog) w 65 5 i _ slBytes.ht hi hz .i64 .i64 m m (by omega) (by omega) (by rw [h3]; omega) (by omega)
  rw [this, h2]
  have e : madeCells (Value.int IntKind.u8 0).cells ((m : Int).toNat * 1) = (u8s (List.replicate m 0)).toArray := by
    rw [Int.toNat_natCast, Nat.mul_one]; exact madeZeros m
  rw [e]; simp
/-- A block that is a row of bytes, with some cells behind it. -/
def BAt (w : World) (g : Nat) (l : Bs) (tl : List Value) : Prop := w.heap[g]? = some (.cells (u8s l ++ tl).toArray 5 (0, 0))
theorem BAt.of {w : World} {g : Nat} {l : Bs} (h : w.heap[g]? = some (.cells (u8s l).toArray 5 (0, 0))) : BAt w g l [] := by unfold BAt; rw [List.append_nil]; exact h
theorem BAt.lt {w : World} {g : Nat} {l : Bs} {tl : List Value} (h : BAt w g l tl) : g < w.heap.size := lt_of h
theorem BAt.keep {F : Nat → Prop} {w w' : World} {g : Nat} {l : Bs} {tl : List Value} (h : BAt w g l tl) (k : Keeps F w w') (hf : ¬ F g) : BAt w' g l tl := k.at h hf
theorem BAt.cell {w : World} {g : Nat} {l : Bs} {tl : List Value} (h : BAt w g l tl) (i : Nat) {u : Value} (hu : (u8s l)[i]? = some u) : w.cell? ⟨g, i, none⟩ = some u := cell_of h i (by
  have hi : i < (u8s l).length := (List.getElem?_eq_some_iff.1 hu).1
  simp only [List.getElem?_toArray]
  rw [List.getElem?_append_left hi]; exact hu)
theorem BAt.rd {w : World} {g : Nat} {l : Bs} {tl : List Value} (h : BAt w g l tl) (o n : Nat) : Rd w (some ⟨g, o, none⟩) (u8s ((l.drop o).take n)) := by
  intro j u hu
  refine ⟨_, rfl, ?_⟩
  rw [addr_add]
  refine h.cell _ ?_
  have hj : j < ((l.drop o).take n).length := by
    have := (List.getElem?_eq_some_iff.1 hu).1
    simpa [u8s] using this
  unfold u8s at hu ⊢
  rw [List.getElem?_map] at hu ⊢
  rw [← hu]
  congr 1
  rw [List.getElem?_take_of_lt (by simp at hj; omega), List.getElem?_drop]
theorem BAt.rd0 {w : World} {g : Nat} {l : Bs} {tl : List Value} (h : BAt w g l tl) : Rd w (some ⟨g, 0, none⟩) (u8s l) := by
  have := h.rd 0 l.length
  simpa using this
/-- d laid over c from o on. -/
def bput (c : Bs) (o : Nat) (d : Bs) : Bs := c.take o ++ d ++ c.drop (o + d.length)
theorem bput_length (c : Bs) (o : Nat) (d : Bs) (h : o + d.length ≤ c.length) : (bput c o d).length = c.length := by simp [bput]; omega
theorem bput_nil (c : Bs) (o : Nat) : bput c o [] = c := by simp [bput]
theorem keeps_setRow (w : World) (g : Nat) (cs : Array Value) : Keeps (fun x => x = g) w (w.setRow g cs) :=
  ⟨rfl, rfl, rfl, by simp [World.setRow], fun k hk hf => setRow_other w g k cs hf⟩
/-- copy: bytes out of memory. -/
theorem copy_bytes (w : World) (g o dl dc sl sc : Nat) (c d : Bs) (A : Option Addr) {tl : List Value} (hg : BAt w g c tl) (hr : Rd w A (u8s d)) (hA : A = none → sl = 0) (hn : d.length = Nat.min sl dl) (hfit : o + d.length ≤ c.length) :
    ∃ w', (∀ ty, (Builtin.copy_ #[65, 65] ty #[.slice (some ⟨g, o, none⟩) dl dc, .slice A sl sc]).run Tryz.prog w = .ok (.int .i64 d.length) w') ∧ BAt w' g (bput c o d) tl ∧ Keeps (fun x => x = g) w w' := by
  by_cases h0 : d.length = 0
  · have hd : d = [] := List.eq_nil_of_length_eq_zero h0
    subst hd
    refine ⟨w, fun ty => ?_, by rw [bput_nil]; exact hg, Keeps.refl _ _⟩
    exact run_copy_none (P := Tryz.prog) w 65 65 ty 5 _ A dl dc sl sc slBytes.ht u8_size hn.symm
  · cases A with
    | none => exfalso; have := hA rfl; subst this; apply h0; rw [hn]; exact Nat.zero_min _
    | some a =>
      have hsrc : ∀ j v, (u8s d)[j]? = some v → w.cell? (a.add j) = some v := by
        intro j v hv
        obtain ⟨ad, e, hc⟩ := hr j v hv
        cases e; exact hc
      have hrun := fun ty => run_copy_row Tryz.prog w 65 65 ty 5 g o dl dc a sl sc (u8s c ++ tl).toArray 5 (u8s d) slBytes.ht u8_size hg (by rw [u8s_length]; exact hn) hsrc (by rw [u8s_length]; simp [u8s]; omega) (u8s_one d)
      simp only [u8s_length] at hrun
      refine ⟨_, hrun, ?_, keeps_setRow _ _ _⟩
      unfold BAt
      rw [setRow_heap w g _ _ _ _ hg]
      have : (u8s (bput c o d) ++ tl) = List.take o (u8s c ++ tl).toArray.toList ++ u8s d ++ List.drop (o + d.length) (u8s c ++ tl).toArray.toList := by
        rw [List.take_append_of_le_length (by rw [u8s_length]; omega), List.drop_append_of_le_length (by rw [u8s_length]; omega)]
        simp [bput, u8s]
      rw [this]
/-- copy: bytes of a string. -/
theorem copy_str (w : World) (g o dl dc : Nat) (c l d : Bs) {tl : List Value} (hg : BAt w g c tl) (hd : d = l.take dl) (hfit : o + d.length ≤ c.length) :
    ∃ w', (∀ ty, (Builtin.copy_ #[65, 9] ty #[.slice (some ⟨g, o, none⟩) dl dc, .string (bs l)]).run Tryz.prog w = .ok (.int .i64 d.length) w') ∧ BAt w' g (bput c o d) tl ∧ Keeps (fun x => x = g) w w' := by
  have hmin : Nat.min l.length dl = d.length := by rw [hd, List.length_take, Nat.min_comm]
  have hcs : ((bs l).extract 0 d.length).data.map (fun b => Value.int .u8 (b.toNat : Int)) = (u8s d).toArray := by
    rw [bs_extract]
    have : List.drop 0 (List.take d.length l) = d := by
      rw [List.drop_zero]
      conv => rhs; rw [hd]
      rw [hd, List.length_take, List.take_eq_take_iff]
      omega
    rw [this]
    simp [bs, u8s]
  have hst := run_storeCells_at Tryz.prog g o 5 (u8s d) 0 (u8s c ++ tl).toArray w hg (by rw [u8s_length]; simp [u8s]; omega) (u8s_one d)
  have hrun : ∀ ty, (Builtin.copy_ #[65, 9] ty #[.slice (some ⟨g, o, none⟩) dl dc, .string (bs l)]).run Tryz.prog w = .ok (.int .i64 d.length) (w.setRow g ((u8s c ++ tl).toArray.toList.take (o + 0) ++ u8s d ++ (u8s c ++ tl).toArray.toList.drop (o + 0 + (u8s d).length)).toArray) := by
    intro ty
    cases hq : Tryz.prog.info? 5 with
    | none => have := u8_size; simp [hq] at this
    | some i =>
      simp only [Builtin.copy_, run_underlying slBytes.ht, Builtin.lenOf, Builtin.firstCells, sizeOf, typeInfo, hq, bs_size, hmin, hcs, Sem.run_bind, Sem.run_pure, Result.andThen_ok, List.getElem?_toArray, List.getElem?_cons_zero, List.getElem?_cons_succ, hst, goInt]
      simp [hq, hcs, hst, goInt]
  refine ⟨_, hrun, ?_, keeps_setRow _ _ _⟩
  unfold BAt
  rw [setRow_heap w g _ _ _ _ hg]
  have : (u8s (bput c o d) ++ tl) = List.take (o + 0) (u8s c ++ tl).toArray.toList ++ u8s d ++ List.drop (o + 0 + (u8s d).length) (u8s c ++ tl).toArray.toList := by
    rw [List.take_append_of_le_length (by rw [u8s_length]; omega), List.drop_append_of_le_length (by rw [u8s_length, u8s_length]; omega)]
    simp [bput, u8s]
  rw [this]
/-- copy of nothing into nothing. -/
theorem copy_str_none (w : World) (ty : TypeId) (l : Bs) : (Builtin.copy_ #[65, 9] ty #[.slice none 0 0, .string (bs l)]).run Tryz.prog w = .ok (.int .i64 0) w := by
  cases hq : Tryz.prog.info? 5 with
  | none => have := u8_size; simp [hq] at this
  | some i =>
    simp [Builtin.copy_, run_underlying slBytes.ht, Builtin.lenOf, Builtin.firstCells, sizeOf, typeInfo, hq, bs_size, goInt]
/-- b[lo:hi]. -/
theorem bsl_lh (g n lo hi cap : Nat) (h1 : lo ≤ hi) (h2 : hi ≤ cap) :
    (∀ w, (Instr.slice 65 (.slice (some ⟨g, 0, none⟩) n cap) (some (.int .i64 lo)) (some (.int .i64 hi)) none).run Tryz.prog w = .ok (.slice (some ⟨g, if cap = lo then 0 else lo, none⟩) (hi - lo) (cap - lo)) w) ∧
    (∀ w, (Instr.sliceAt 65 (.slice (some ⟨g, 0, none⟩) n cap) (some (.int .i64 lo)) (some (.int .i64 hi)) none).run Tryz.prog w = .ok (.slice (some ⟨g, if cap = lo then 0 else lo, none⟩) (hi - lo) (cap - lo)) w) := by
  have he : Tryz.prog.elem 65 = 5 := by simp [Program.elem, Tryz.underlying65]
  have ht : Tryz.prog.underlying 65 = some (.slice (Tryz.prog.elem 65)) := by rw [he]; exact Tryz.underlying65
  have hsz : ∀ w, (sizeOf 5).run Tryz.prog w = .ok 1 w := fun w => by kernel_rfl
  have h3 : ∀ w, (Instr.slice 65 (.slice (some ⟨g, 0, none⟩) n cap) (some (.int .i64 lo)) (some (.int .i64 hi)) none).run Tryz.prog w = .ok (.slice (some ⟨g, if cap = lo then 0 else lo, none⟩) (hi - lo) (cap - lo)) w := by
    intro w
    rw [run_slice_lh w _ _ n cap ht .i64 .i64 lo hi (by omega) (by omega) (by omega), he, hsz]
    have : sliced (some ⟨g, 0, none⟩) (lo : Int).toNat (hi : Int).toNat cap 1 = .slice (some ⟨g, if cap = lo then 0 else lo, none⟩) (hi - lo) (cap - lo) := by
      unfold sliced
      simp only [Int.toNat_natCast, Nat.mul_one, Option.map_some, addr_add, Nat.zero_add]
      by_cases hc : cap = lo
      · rw [if_pos hc, if_pos hc]
      · rw [if_neg hc, if_neg hc]
    rw [← this]; rfl
  exact ⟨h3, fun w => by rw [run_sliceAt_slice w _ _ _ _ _ ht]; exact h3 w⟩
end Go.Proofs.YtnheibcjcgacpaaGreatDoor
