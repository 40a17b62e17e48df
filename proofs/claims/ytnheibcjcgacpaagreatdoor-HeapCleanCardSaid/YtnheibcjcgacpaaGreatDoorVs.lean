/- The library's contracts laid at this program: strings.Builder's String, slices.Compact at ints (by the kit's lay-plain; numbers by name); what copyCheck and WriteString do (walked). -/
import Derived.Shelf.Strings.BuilderK
import Derived.Shelf.Slices.CompactI
import Derived.Test.YtnheibcjcgacpaaGreatDoorByt
import Derived.Test.YtnheibcjcgacpaaGreatDoorOut
set_option linter.unusedVariables false
set_option linter.unusedSimpArgs false
namespace Go.Proofs.YtnheibcjcgacpaaGreatDoor
open Go.RowKit Go.Shelf Go.Sort Go.ChangeMaps
def Tryz.lays169_ren : Go.Shelf.Ren := ⟨fun | 169 => 128 | n => n, fun | 70 => 197 | 9 => 9 | 0 => 0 | 72 => 199 | 37 => 65 | 127 => 274 | 3 => 3 | 5 => 5 | n => n, fun | n => n⟩
theorem Tryz.lays169 : Go.Proofs.Lays.n169 Tryz.prog Tryz.lays169_ren := {
  mixed := by kernel_rfl
  f169 := Tryz.func128.trans (congrArg some (by kernel_rfl))
  t0 := Tryz.underlying0
  a0 := Tryz.isAgg0
  z0 := Tryz.sizeOf0
  v0 := Tryz.zeroValue0
  t3 := Tryz.underlying3
  a3 := Tryz.isAgg3
  z3 := Tryz.sizeOf3
  v3 := Tryz.zeroValue3
  t9 := Tryz.underlying9
  a9 := Tryz.isAgg9
  z9 := Tryz.sizeOf9
  v9 := Tryz.zeroValue9
  t37 := Tryz.underlying65
  a37 := Tryz.isAgg65
  z37 := Tryz.sizeOf65
  v37 := Tryz.zeroValue65
  t70 := Tryz.underlying197
  a70 := Tryz.isAgg197
  z70 := Tryz.sizeOf197
  v70 := Tryz.zeroValue197
  t72 := Tryz.underlying199
  a72 := Tryz.isAgg199
  z72 := Tryz.sizeOf199
  v72 := Tryz.zeroValue199
  t127 := Tryz.underlying274
  a127 := Tryz.isAgg274
  z127 := Tryz.sizeOf274
  v127 := Tryz.zeroValue274 }
theorem Tryz.Builder_Extra_169 : Builder.Extra Tryz.prog Tryz.lays169_ren := {
  sizeBuilder := by kernel_rfl
  liesBuilder := by kernel_rfl
  t5 := Tryz.underlying5
  a5 := Tryz.isAgg5
  z5 := Tryz.sizeOf5
  v5 := Tryz.zeroValue5
  infoByte := by kernel_rfl
  cellsByte := by kernel_rfl
  sizeByte := by kernel_rfl
  neB5 := by decide }
def Tryz.laysNm220_ren : Go.Shelf.Ren := ⟨fun | 20 => 234 | n => n, fun | 22 => 24 | 3 => 3 | 4 => 4 | 0 => 0 | n => n, fun | n => n⟩
theorem Tryz.laysNm220 : Go.Proofs.Lays2.n20 Tryz.prog Tryz.laysNm220_ren := {
  mixed := by kernel_rfl
  f20 := Tryz.func234.trans (congrArg some (by kernel_rfl))
  t0 := Tryz.underlying0
  a0 := Tryz.isAgg0
  z0 := Tryz.sizeOf0
  v0 := Tryz.zeroValue0
  t3 := Tryz.underlying3
  a3 := Tryz.isAgg3
  z3 := Tryz.sizeOf3
  v3 := Tryz.zeroValue3
  t4 := Tryz.underlying4
  a4 := Tryz.isAgg4
  z4 := Tryz.sizeOf4
  v4 := Tryz.zeroValue4
  t22 := Tryz.underlying24
  a22 := Tryz.isAgg24
  z22 := Tryz.sizeOf24
  v22 := Tryz.zeroValue24
  i3 := by kernel_rfl }
theorem Tryz.bstring (B b : Nat) (l : List UInt8) (w : World) (h : Lib.IsBuilderF 199 5 B b (Lib.byteCells l) w) (hBw : B ≤ w.heap.size) :
    Calls Tryz.prog 128 #[.pointer (some ⟨b, 0, none⟩)] w fun e w' => e = .returned (.string ⟨l.toArray⟩) ∧ (Lib.IsBuilderF 199 5 B b (Lib.byteCells l) w' ∧ Below B w w' ∧ Lib.OthersKept 5 (some b) w w') := Any.Builder_String_any_k Tryz.lays169 Tryz.Builder_Extra_169 B b l w h hBw
theorem Tryz.compact_int (blk off cap : Nat) (zs : List Int) (w : World) (hH : Holds (Value.int .i64) w blk off zs.toArray) (hsz : zs.length ≤ 9223372036854775807) (hcap : zs.length ≤ cap) :
    Calls Tryz.prog 234 #[.slice (some ⟨blk, off, none⟩) zs.length cap] w fun e w' => e = .returned (.slice (some ⟨blk, off, none⟩) (Lib.compact zs).length cap) ∧ ∃ q, w' = putRow (Value.int .i64) (Sort.ahead w q) blk off (Lib.compact zs ++ List.replicate (zs.length - (Lib.compact zs).length) 0).toArray := Any.slices_Compact_int Tryz.laysNm220 blk off cap zs w hH hsz hcap
theorem Tryz.compact_int_empty (a : Option Addr) (cap : Nat) (w : World) :
    Calls Tryz.prog 234 #[.slice a 0 cap] w fun e w' => e = .returned (.slice a 0 cap) ∧ w' = w := Any.slices_Compact_int_empty Tryz.laysNm220 a cap w
namespace Vs
theorem sizeB : (Tryz.prog.info? 199).map (·.size) = some 2 := by kernel_rfl
theorem liesB : liesAt Tryz.prog Tryz.prog.depth 199 (2 / Tryz.prog.cellsOf 199) 0 199 1 = true := by kernel_rfl
def self (b : Nat) : Value := .pointer (some ⟨b, 0, none⟩)
/-- A strings.Builder of the call's own. -/
structure BB (B : Nat) (w : World) (b : Nat) (q u : Value) (l : Bs) : Prop where
  cells : w.heap[b]? = some (.cells #[q, u] 199 (0, 0))
  row : w.ownsRow B 5 1 u l.length (u8s l)
  ne : u.ownBlock ≠ some b
  q : q = .pointer none ∨ q = self b
def CcR (w : World) (b : Nat) (u : Value) (e : Ending) (w' : World) : Prop := e = .returned (.tuple #[]) ∧ w'.heap[b]? = some (.cells #[self b, u] 199 (0, 0)) ∧ Keeps (fun x => x = b) w w'
set_option maxRecDepth 100000 in
theorem cc_any (w : World) (b : Nat) (q u : Value) (hb : w.heap[b]? = some (.cells #[q, u] 199 (0, 0))) (hq : q = .pointer none ∨ q = self b) :
    Calls Tryz.prog 224 #[.pointer (some ⟨b, 0, none⟩)] w (CcR w b u) := by
  obtain ⟨j, hj, hjs⟩ := Option.map_eq_some_iff.1 sizeB
  have h0 := cell_of hb 0 (v := q) rfl
  have hfz := free_of hb 0
  have hsh : w.shape? b = some (199, 2) := by simp [World.shape?, hb]
  rcases hq with rfl | rfl
  · have HF := Hid.of (show CcR w b u (.returned (.tuple #[])) (w.setCell ⟨b, 0, none⟩ (self b)) from ⟨rfl, by rw [set_of hb 0]; rfl, (Keeps.refl _ _).setCell _ _ (.inl rfl)⟩)
    clear hb
    go_enter Tryz.func224, Tryz.ntmps224
    go_wp2
    rw [Lib.run_to_unsafe w ⟨b, 0, none⟩ Tryz.underlying197 Tryz.underlying317 hj (by rw [hjs]; decide) hsh (Nat.zero_lt_succ 1)]
    simp only [Result.andThen]
    rw [Oper.upon_value]
    go_wp2
    rw [run_callFunc_extern Tryz.func289 (by kernel_rfl) (by kernel_rfl) (by kernel_rfl) (e := Extern.AbiNoEscape.same) (by kernel_rfl)]
    rw [Lib.run_noEscape]
    simp only [Result.andThen]
    rw [Oper.upon_value]
    go_wp2
    rw [Lib.run_from_unsafe w ⟨b, 0, none⟩ Tryz.underlying317 Tryz.underlying197 hj hsh liesB]
    simp only [Result.andThen]
    rw [Oper.upon_value]
    go_wp2
    go_end0
    exact HF.out
  · have HF := Hid.of (show CcR w b u (.returned (.tuple #[])) w from ⟨rfl, hb, Keeps.refl _ _⟩)
    unfold self at h0
    clear hb
    go_enter Tryz.func224, Tryz.ntmps224
    go_wp2
    rw [Lib.run_neq_ptr_same w _ Tryz.underlying197 hj]
    go_wp2
    go_end0
    exact HF.out
theorem strCells_bs (d : Bs) : Lib.strCells (bs d) = u8s d := by unfold Lib.strCells u8s bs; simp
theorem infoB : (Tryz.prog.info? 5).map (fun i => (i.zero, i.size, i.bytes)) = some (some (.int .u8 0), 1, 1) := by kernel_rfl
def WsR (B : Nat) (w : World) (b : Nat) (u : Value) (l d : Bs) (e : Ending) (w' : World) : Prop := e = .returned (.tuple #[.int .i64 d.length, .nilIface]) ∧ ∃ u', BB B w' b (self b) u' (l ++ d) ∧ Keeps (fun x => x = b ∨ u.ownBlock = some x) w w'
theorem row_lt {B : Nat} {w : World} {e : TypeId} {u : Value} {n : Nat} {xs : List Value} (h : w.ownsRow B e 1 u n xs) {g : Nat} (hg : u.ownBlock = some g) : B ≤ g ∧ ∃ c, w.heap[g]? = some (.cells c e (0, 0)) := by
  rcases h.2 with ⟨hv, _⟩ | ⟨g', cap, cur, hv, hB, hh, _⟩
  · rw [hv] at hg; cases hg
  · rw [hv] at hg; cases hg; exact ⟨hB, _, hh⟩
theorem row_same {B : Nat} {w w' : World} {e : TypeId} {u : Value} {n : Nat} {xs : List Value} (h : w.ownsRow B e 1 u n xs) (hb : ∀ g, u.ownBlock = some g → w'.heap[g]? = w.heap[g]?) : w'.ownsRow B e 1 u n xs := by
  obtain ⟨h1, h2⟩ := h
  refine ⟨h1, ?_⟩
  rcases h2 with h2 | ⟨g, cap, cur, hv, hg, hh, r⟩
  · exact .inl h2
  · exact .inr ⟨g, cap, cur, hv, hg, by rw [hb g (by rw [hv]; rfl)]; exact hh, r⟩
theorem BB.keep {F : Nat → Prop} {B : Nat} {w w' : World} {b : Nat} {q u : Value} {l : Bs} (h : BB B w b q u l) (k : Keeps F w w') (hb : ¬ F b) (hu : ∀ g, u.ownBlock = some g → ¬ F g) : BB B w' b q u l :=
  ⟨k.at h.cells hb, row_same h.row (fun g hg => k.block g (by obtain ⟨_, c, hc⟩ := row_lt h.row hg; exact lt_of hc) (hu g hg)), h.ne, h.q⟩
set_option maxRecDepth 100000 in
set_option maxHeartbeats 1000000 in
theorem wstr_any (B : Nat) (w : World) (b : Nat) (q u : Value) (l d : Bs) (h : BB B w b q u l) (hl : l.length + d.length ≤ 1000000000) (hB : B ≤ w.heap.size) :
    Calls Tryz.prog 127 #[.pointer (some ⟨b, 0, none⟩), .string (bs d)] w (WsR B w b u l d) := by
  obtain ⟨i0, hi, hz0, hz1, hz2⟩ := info_parts infoB
  have q1 := cc_any w b q u h.cells h.q
  unfold CcR at q1
  have HH := Hid.of (And.intro h hB)
  have hsz := bs_size d
  obtain ⟨n, hn⟩ : ∃ n, d.length = n := ⟨_, rfl⟩
  rw [hn] at hsz hl
  have HN := Hid.of hn
  have e9 : (Tryz.prog.underlying 65) = some (.slice 5) := Tryz.underlying65
  clear h hB hn
  go_enter Tryz.func127, Tryz.ntmps127
  go_wp2_with fail
  refine q1.mono ?_
  rintro e w1 ⟨rfl, b1, k1⟩
  have c0 := cell_of b1 0 (v := self b) rfl
  have c1 := cell_of b1 1 (v := u) rfl
  have o1 := row_same HH.out.1.row (fun g hg => k1.block g (by obtain ⟨_, c, hc⟩ := row_lt HH.out.1.row hg; exact lt_of hc) (fun e => HH.out.1.ne (by rw [hg, e])))
  have HK := Hid.of (And.intro b1 (And.intro k1 o1))
  unfold self at c0
  clear q1 k1 b1
  go_wp2_with (at_builtin; refine Lib.wpList_append_own_string _ rfl _ _ 65 9 rfl B 5 i0 e9 Tryz.underlying9 hi hz0 hz1 hz2 _ _ _ rfl o1 (bs d) rfl ?c3 ?c4 ?c5 ?_)
  case c3 => rw [hsz]; unfold maxLen; omega
  case c4 => rw [hsz]; omega
  case c5 => have := HK.out.2.1.size; have := HH.out.2; omega
  intro v' w2 hown' hgrow _
  have hlt := lt_of HK.out.1
  have hb2 : w2.heap[b]? = some (.cells #[self b, u] 199 (0, 0)) := by
    rw [hgrow.block b hlt (fun e => HH.out.1.ne e.symm)]
    exact HK.out.1
  have d1 := cell_of hb2 1 (v := u) rfl
  have f1 := free_of hb2 1
  obtain ⟨w3, hw3⟩ : ∃ w3, w2.setCell ⟨b, 1, none⟩ v' = w3 := ⟨_, rfl⟩
  have HF := Hid.of (show ∃ u', BB B w3 b (self b) u' (l ++ d) ∧ Keeps (fun x => x = b ∨ u.ownBlock = some x) w w3 from by
    rw [strCells_bs] at hown'
    have y2 := set_of hb2 1 v'
    rw [hw3] at y2
    have k2 : Keeps (fun x => u.ownBlock = some x) w1 w2 := ⟨hgrow.os, hgrow.tape, hgrow.output, hgrow.size, fun x hx hf => hgrow.block x hx (fun e => hf e.symm)⟩
    have k3 : Keeps (fun x => x = b) w2 w3 := by rw [← hw3]; exact (Keeps.refl _ _).setCell _ _ (.inl rfl)
    have hne : v'.ownBlock ≠ some b := fun e => by
      obtain ⟨_, c, hc⟩ := row_lt hown' e
      rw [hb2] at hc
      injection hc with hc
      injection hc with _ hc
      exact absurd hc (by decide)
    refine ⟨v', ⟨by exact y2, ?_, hne, .inr rfl⟩, ((HK.out.2.1.mono (fun x _ e => .inl e)).trans (k2.mono (fun x _ e => .inr e))).trans (k3.mono (fun x _ e => .inl e))⟩
    rw [List.length_append, HN.out, u8s_append]
    exact row_same hown' (fun g hg => k3.block g (by obtain ⟨_, c, hc⟩ := row_lt hown' hg; exact lt_of hc) (fun e => hne (by rw [hg, e]))))
  obtain ⟨ao, n', cap, rfl⟩ : ∃ ao n' cap, v' = .slice ao n' cap := by
    rcases hown'.2 with ⟨hv, _⟩ | ⟨g, cap, cur, hv, _⟩
    · exact ⟨_, _, _, hv⟩
    · exact ⟨_, _, _, hv⟩
  clear hown' hgrow hb2 o1
  go_wp2
  go_ret2
  exact ⟨by rw [HN.out]; rfl, HF.out⟩
end Vs
end Go.Proofs.YtnheibcjcgacpaaGreatDoor
