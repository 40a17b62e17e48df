/- The model package's walk: charged. | The model's part in memory: what it is, how steps change it; charged, drop. | The model package's walk: make. | The model package's walk: span. | The model package's walk: realloc. -/
import Derived.Test.YtagmkkddjdlncaaDoorModA
import Derived.Test.YtagmkkddjdlncaaDoorModP
import Derived.Test.YtagmkkddjdlncaaDoorRng
import Derived.Deep.RegionHeld3
import Derived.BigQuiet
import Derived.Deep.QuietTactic
set_option linter.unusedVariables false
set_option linter.unusedSimpArgs false
/-! The model package's walk: charged. -/
namespace Go.Proofs.YtagmkkddjdlncaaDoor
open Go.RowKit Go.ChangeMaps
namespace Mo
/-- Where a row of bytes lies: its block, the cells behind it. -/
structure Rw where
  b : Nat
  t : List Value
/-- An object's place, and the object, as a value of the map. -/
def oenc (x : Rw × MO) : Value := .agg #[.slice (some ⟨x.1.b, 0, none⟩) x.2.bs.length (x.2.bs.length + x.1.t.length), .int .i64 x.2.cost]
def tag (g : Int → Rw) (E : List (Int × MO)) : List (Int × (Rw × MO)) := E.map fun x => (x.1, (g x.1, x.2))
theorem tag_length (g : Int → Rw) (E : List (Int × MO)) : (tag g E).length = E.length := by simp [tag]
def sumT (L : List (Int × (Rw × MO))) : Nat := (L.map (fun x => x.2.2.cost)).sum
theorem sumT_tag (g : Int → Rw) (E : List (Int × MO)) : sumT (tag g E) = sum E := by
  unfold sumT tag sum
  rw [List.map_map]; rfl
theorem sumT_mid (A B : List (Int × (Rw × MO))) (x : Int × (Rw × MO)) : sumT (A ++ x :: B) = sumT (A ++ B) + x.2.2.cost := by
  simp [sumT]; omega
set_option maxRecDepth 100000 in
set_option maxHeartbeats 1000000 in
theorem charged_tag (w : World) (b c ob : Nat) (k q t n : Int) (L : List (Int × (Rw × MO))) (H : w.heap[b]? = some (.cells (pcells c k q t ob n) 58 (0, 0))) (hm : EMap oenc w ob L) (hs : sumT L ≤ 1000000) :
    Calls Tryd.prog 25 #[.pointer (some ⟨b, 0, none⟩)] w fun e w' => e = .returned (.int .i64 (sumT L)) ∧ Keeps (fun _ => False) w w' := by
  have c4 := cell_of (v := .map (some ob)) H 4 rfl
  obtain ⟨w1, rg, R1, k1⟩ := hm.range (P := Tryd.prog) Tryd.underlying56
  obtain ⟨r, hr⟩ : ∃ r, w.heap.size = r := ⟨_, rfl⟩
  rw [hr] at rg R1
  have HR := Hid.of (And.intro R1 k1)
  have hrl : r < w1.heap.size := R1.lt
  have HS := Hid.of hs
  clear H hm R1 k1 hs
  go_enter Tryd.func25, Tryd.ntmps25
  go_wp2
  go_loopw [3] (fun i wr => ∃ (left : List (Int × (Rw × MO))) (S : Nat), i = .int .i64 S ∧ Hid (S + sumT left = sumT L ∧ ERange oenc wr ob r L left ∧ Keeps (fun _ => False) w wr)) (fun _ wr => wr.rangeLeft ob r)
  case atStart => exact ⟨L, 0, rfl, Hid.of (And.intro (by omega) HR.out)⟩
  case round =>
    obtain ⟨left, S, rfl, HH⟩ := hrel
    rcases HH.out.2.1.next Tryd.prog with ⟨hl, hn⟩ | ⟨kk, v, l1, l2, w2, hl, hn, R2, k2, he⟩
    · have hS : S = sumT L := by have := HH.out.1; rw [hl] at this; simpa [sumT] using this
      have HK := Hid.of HH.out.2.2
      clear HH hl
      go_wp2
      go_ret
      subst hS
      exact ⟨rfl, HK.out⟩
    · obtain ⟨⟨bl, bt⟩, ⟨bb, cost⟩⟩ := v
      unfold oenc at hn he
      dsimp only at hn he
      have hsum : S + cost + sumT (l1 ++ l2) = sumT L := by have := HH.out.1; rw [hl, sumT_mid] at this; simp only at this; omega
      have k3 : Keeps (fun _ => False) w2 (w2.alloc (.cells #[.slice (some ⟨bl, 0, none⟩) bb.length (bb.length + bt.length), .int .i64 cost] 63)) := (Keeps.refl _ _).alloc _
      have R3 := R2.keep k3 (fun x => x) (fun x => x)
      have hml : (w2.alloc (.cells #[.slice (some ⟨bl, 0, none⟩) bb.length (bb.length + bt.length), .int .i64 cost] 63)).rangeLeft ob r < wr.rangeLeft ob r := by rw [R3.left_eq, HH.out.2.1.left_eq, hl]; simp
      have HM := Hid.of hml
      have hb2 : cost + S ≤ 1000000 := by have := HS.out; omega
      have hK : Keeps (fun _ => False) w w2 := HH.out.2.2.trans' k2 (fun x hx hlt => by subst hx; omega)
      have HF := Hid.of (And.intro hsum (And.intro R3 (hK.trans k3)))
      clear HH hl hsum R2 k2 hml hK R3 k3
      go_wp2
      go_roundw
      case rel => exact ⟨l1 ++ l2, S + cost, by go_num, HF⟩
      case measure => exact HM.out
end Mo
end Go.Proofs.YtagmkkddjdlncaaDoor

/-! The model's part in memory: what it is, how steps change it; charged, drop. -/
namespace Go.Proofs.YtagmkkddjdlncaaDoor
open Go.RowKit Go.ChangeMaps
namespace Mo
theorem eget_tag (g : Int → Rw) (E : List (Int × MO)) (k : Int) : eget (tag g E) k = (eget E k).map (fun o => (g k, o)) := by
  induction E with
  | nil => rfl
  | cons y E ih =>
    have : tag g (y :: E) = (y.1, (g y.1, y.2)) :: tag g E := rfl
    rw [this, eget_cons, eget_cons, ih]
    by_cases h : y.1 = k
    · simp [h]
    · simp [h]
def gset (g : Int → Rw) (k : Int) (h : Rw) : Int → Rw := fun j => if j = k then h else g j
theorem gset_same (g : Int → Rw) (k : Int) (h : Rw) : gset g k h k = h := by simp [gset]
theorem gset_other (g : Int → Rw) (k : Int) (h : Rw) {j : Int} (hj : j ≠ k) : gset g k h j = g j := by simp [gset, hj]
theorem tag_eset (g : Int → Rw) (E : List (Int × MO)) (k : Int) (h : Rw) (o : MO) : eset (tag g E) k (h, o) = tag (gset g k h) (eset E k o) := by
  have hs : ((tag g E).find? (fun p => p.1 == k)).isSome = (E.find? (fun p => p.1 == k)).isSome := by
    rw [← eget_isSome, ← eget_isSome, eget_tag]; simp
  unfold eset
  rw [hs]
  cases hc : (E.find? (fun p => p.1 == k)).isSome
  · simp only [Bool.false_eq_true, if_false]
    have hno : ∀ x ∈ E, x.1 ≠ k := by
      intro x hx e
      have : (E.find? (fun p => p.1 == k)).isSome = true := by rw [List.find?_isSome]; exact ⟨x, hx, by simp [e]⟩
      rw [hc] at this; cases this
    unfold tag
    rw [List.map_append]
    congr 1
    · exact List.map_congr_left fun x hx => by rw [gset_other g k h (hno x hx)]
    · simp [gset_same]
  · simp only [if_true]
    unfold tag
    rw [List.map_map, List.map_map]
    refine List.map_congr_left fun x hx => ?_
    simp only [Function.comp_apply]
    by_cases e : x.1 = k
    · simp [e, gset_same]
    · simp [e, gset_other g k h e]
theorem tag_edel (g : Int → Rw) (E : List (Int × MO)) (k : Int) : edel (tag g E) k = tag g (edel E k) := by
  unfold edel tag
  rw [List.filter_map]; rfl
/-- Where a part lies. -/
structure Plc where
  b : Nat
  ob : Nat
  c : Ca.Pl
def Fp (p : Plc) (g : Int → Rw) (E : List (Int × MO)) (i : Nat) : Prop := i = p.b ∨ i = p.ob ∨ Ca.Fp p.c i ∨ ∃ x ∈ E, i = (g x.1).b
structure PAt (w : World) (p : Plc) (g : Int → Rw) (P : PP) : Prop where
  cells : w.heap[p.b]? = some (.cells (pcells p.c.c P.k P.q P.t p.ob P.n) 58 (0, 0))
  caps : Ca.At w p.c P.C
  map : EMap oenc w p.ob (tag g P.E)
  rows : ∀ x ∈ P.E, BAt w (g x.1).b x.2.bs (g x.1).t
  inj : ∀ x ∈ P.E, ∀ y ∈ P.E, (g x.1).b = (g y.1).b → x.1 = y.1
  bo : p.b ≠ p.ob
  bc : ¬ Ca.Fp p.c p.b
  oc : ¬ Ca.Fp p.c p.ob
  rb : ∀ x ∈ P.E, (g x.1).b ≠ p.b ∧ (g x.1).b ≠ p.ob ∧ ¬ Ca.Fp p.c (g x.1).b
  off : ¬ Fp p g P.E 0
/-- What a step of a part leaves. -/
def PRG (w : World) (p : Plc) (g : Int → Rw) (P : PP) (g' : Int → Rw) (P' : PP) (w' : World) : Prop := PAt w' p g' P' ∧ Keeps (Fp p g P.E) w w' ∧ ∀ i, Fp p g' P'.E i → Fp p g P.E i ∨ w.heap.size ≤ i
def PR (w : World) (p : Plc) (g : Int → Rw) (P P' : PP) (w' : World) : Prop := ∃ g', PRG w p g P g' P' w'
theorem PAt.keep {F : Nat → Prop} {w w' : World} {p : Plc} {g : Int → Rw} {P : PP} (h : PAt w p g P) (hk : Keeps F w w') (hf : ∀ x, Fp p g P.E x → ¬ F x) : PAt w' p g P :=
  { h with
    cells := hk.at h.cells (hf _ (.inl rfl))
    caps := h.caps.keep hk (fun x hx => hf x (.inr (.inr (.inl hx))))
    map := h.map.keep hk (hf _ (.inr (.inl rfl)))
    rows := fun x hx => (h.rows x hx).keep hk (hf _ (.inr (.inr (.inr ⟨x, hx, rfl⟩)))) }
theorem PAt.old {w w' : World} {p : Plc} {g : Int → Rw} {P : PP} (h : PAt w p g P) (hk : Keeps (fun _ => False) w w') : PAt w' p g P := h.keep hk (fun _ _ x => x)
theorem PAt.lt {w : World} {p : Plc} {g : Int → Rw} {P : PP} (h : PAt w p g P) {i : Nat} (hi : Fp p g P.E i) : i < w.heap.size := by
  rcases hi with rfl | rfl | hi | ⟨x, hx, rfl⟩
  · exact lt_of h.cells
  · exact h.map.lt
  · exact h.caps.lt hi
  · exact (h.rows x hx).lt
theorem PR.refl {w w' : World} {p : Plc} {g : Int → Rw} {P : PP} (h : PAt w p g P) (hk : Keeps (fun _ => False) w w') : PR w p g P P w' :=
  ⟨g, h.old hk, hk.mono (fun _ _ x => x.elim), fun i hi => .inl hi⟩
theorem PRG.trans {w w1 w2 : World} {p : Plc} {g g1 g2 : Int → Rw} {P P1 P2 : PP} (k : Keeps (Fp p g P.E) w w1) (hf : ∀ i, Fp p g1 P1.E i → Fp p g P.E i ∨ w.heap.size ≤ i) (h2 : PRG w1 p g1 P1 g2 P2 w2) : PRG w p g P g2 P2 w2 := by
  obtain ⟨a2, k2, f2⟩ := h2
  refine ⟨a2, k.trans' k2 (fun x hx hlt => ?_), fun i hi => ?_⟩
  · rcases hf x hx with h | h
    · exact h
    · omega
  · rcases f2 i hi with h | h
    · exact hf i h
    · exact .inr (Nat.le_trans k.size h)
theorem PR.trans {w w1 w2 : World} {p : Plc} {g g1 : Int → Rw} {P P1 P2 : PP} (k : Keeps (Fp p g P.E) w w1) (hf : ∀ i, Fp p g1 P1.E i → Fp p g P.E i ∨ w.heap.size ≤ i) (h2 : PR w1 p g1 P1 P2 w2) : PR w p g P P2 w2 := by
  obtain ⟨g2, h2⟩ := h2
  exact ⟨g2, PRG.trans k hf h2⟩
theorem PAt.caps' {w w' : World} {p : Plc} {g : Int → Rw} {P : PP} (h : PAt w p g P) {C' : Ca.Cp} (a : Ca.At w' p.c C') (k : Keeps (Ca.Fp p.c) w w') : PAt w' p g { P with C := C' } :=
  { h with
    cells := k.at h.cells h.bc
    caps := a
    map := h.map.keep k h.oc
    rows := fun x hx => (h.rows x hx).keep k (h.rb x hx).2.2 }
theorem PR.caps {w w' : World} {p : Plc} {g : Int → Rw} {P : PP} (h : PAt w p g P) {C' : Ca.Cp} (a : Ca.At w' p.c C') (k : Keeps (Ca.Fp p.c) w w') : PR w p g P { P with C := C' } w' :=
  ⟨g, h.caps' a k, k.mono (fun x _ hx => .inr (.inr (.inl hx))), fun i hi => .inl hi⟩
theorem PAt.del {w w' : World} {p : Plc} {g : Int → Rw} {P : PP} (h : PAt w p g P) {k : Int} (m : EMap oenc w' p.ob (edel (tag g P.E) k)) (kp : Keeps (fun x => x = p.ob) w w') : PR w p g P { P with E := edel P.E k } w' := by
  have sub : ∀ i, Fp p g (edel P.E k) i → Fp p g P.E i := by
    rintro i (hi | hi | hi | ⟨x, hx, hi⟩)
    · exact .inl hi
    · exact .inr (.inl hi)
    · exact .inr (.inr (.inl hi))
    · exact .inr (.inr (.inr ⟨x, (mem_edel.1 hx).1, hi⟩))
  refine ⟨g, { h with
    cells := kp.at h.cells h.bo
    caps := h.caps.keep kp (fun x hx e => h.oc (e ▸ hx))
    map := by rw [← tag_edel]; exact m
    rows := fun x hx => (h.rows x (mem_edel.1 hx).1).keep kp (h.rb x (mem_edel.1 hx).1).2.1
    inj := fun x hx y hy => h.inj x (mem_edel.1 hx).1 y (mem_edel.1 hy).1
    rb := fun x hx => h.rb x (mem_edel.1 hx).1
    off := fun e => h.off (sub _ e) }, kp.mono (fun x _ hx => .inr (.inl hx)), fun i hi => .inl (sub i hi)⟩
/-- A new row of bytes, for a key that is new, or not. -/
theorem PAt.put {w w1 w' : World} {p : Plc} {g : Int → Rw} {P : PP} (h : PAt w p g P) {k : Int} {o : MO} {r : Rw} (hr : w.heap.size ≤ r.b) (k1 : Keeps (fun _ => False) w w1) (row : BAt w1 r.b o.bs r.t) (m : EMap oenc w' p.ob (eset (tag g P.E) k (r, o))) (kp : Keeps (fun x => x = p.ob) w1 w') (hT : Sh.Tab w) :
    PRG w p g P (gset g k r) { P with E := eset P.E k o } w' := by
  have h1 := h.old k1
  have lt := fun {i} (hi : Fp p g P.E i) => h.lt hi
  have hob : p.ob < w.heap.size := h.map.lt
  have ne : ∀ x ∈ P.E, (g x.1).b < w.heap.size := fun x hx => (h.rows x hx).lt
  have grow : ∀ x ∈ eset P.E k o, (x = (k, o) ∧ gset g k r x.1 = r) ∨ (x ∈ P.E ∧ x.1 ≠ k ∧ gset g k r x.1 = g x.1) := by
    intro x hx
    rcases mem_eset hx with rfl | ⟨hx, hk⟩
    · exact .inl ⟨rfl, gset_same _ _ _⟩
    · exact .inr ⟨hx, hk, gset_other _ _ _ hk⟩
  have sub : ∀ i, Fp p (gset g k r) (eset P.E k o) i → Fp p g P.E i ∨ w.heap.size ≤ i := by
    rintro i (hi | hi | hi | ⟨x, hx, hi⟩)
    · exact .inl (.inl hi)
    · exact .inl (.inr (.inl hi))
    · exact .inl (.inr (.inr (.inl hi)))
    · rcases grow x hx with ⟨_, e⟩ | ⟨hx', _, e⟩
      · right; rw [hi, e]; exact hr
      · left; exact .inr (.inr (.inr ⟨x, hx', by rw [hi, e]⟩))
  refine ⟨{ h with
    cells := kp.at h1.cells h.bo
    caps := h1.caps.keep kp (fun x hx e => h.oc (e ▸ hx))
    map := by rw [← tag_eset]; exact m
    rows := ?_
    inj := ?_
    rb := ?_
    off := ?_ }, ?_, sub⟩
  · intro x hx
    rcases grow x hx with ⟨rfl, e⟩ | ⟨hx', _, e⟩
    · rw [e]; exact row.keep kp (by omega)
    · rw [e]; exact (h1.rows x hx').keep kp (h.rb x hx').2.1
  · intro x hx y hy hxy
    rcases grow x hx with ⟨rfl, e⟩ | ⟨hx', hkx, e⟩
    · rcases grow y hy with ⟨rfl, e'⟩ | ⟨hy', _, e'⟩
      · rfl
      · rw [e, e'] at hxy; have := ne y hy'; omega
    · rcases grow y hy with ⟨rfl, e'⟩ | ⟨hy', _, e'⟩
      · rw [e, e'] at hxy; have := ne x hx'; omega
      · rw [e, e'] at hxy; exact h.inj x hx' y hy' hxy
  · intro x hx
    rcases grow x hx with ⟨rfl, e⟩ | ⟨hx', _, e⟩
    · rw [e]
      refine ⟨?_, by omega, ?_⟩
      · have := lt_of h.cells; omega
      · intro q; have := h.caps.lt q; omega
    · rw [e]; exact h.rb x hx'
  · intro q
    rcases sub _ q with q | q
    · exact h.off q
    · have := hT.lt; omega
  · exact (k1.mono (fun _ _ x => x.elim)).trans (kp.mono (fun x _ hx => .inr (.inl hx)))
/-- Bytes of an object are written. -/
theorem PAt.bytes {w w' : World} {p : Plc} {g : Int → Rw} {P : PP} (h : PAt w p g P) {k : Int} {o : MO} {l : Bs} (ho : eget P.E k = some o) (hl : l.length = o.bs.length) (row : BAt w' (g k).b l (g k).t) (kp : Keeps (fun x => x = (g k).b) w w') :
    PAt w' p g { P with E := eset P.E k ⟨l, o.cost⟩ } ∧ Keeps (Fp p g P.E) w w' ∧ ∀ i, Fp p g (eset P.E k ⟨l, o.cost⟩) i → Fp p g P.E i := by
  have hm := eget_memE ho
  have hrb := h.rb _ hm
  have hs : (P.E.find? (fun p => p.1 == k)).isSome = true := by rw [← eget_isSome, ho]; rfl
  have hgg : gset g k (g k) = g := by funext j; unfold gset; split <;> simp_all
  have back : ∀ x ∈ eset P.E k ⟨l, o.cost⟩, ∃ y ∈ P.E, y.1 = x.1 := by
    intro x hx
    rcases mem_eset hx with rfl | ⟨hx, _⟩
    · exact ⟨_, hm, rfl⟩
    · exact ⟨x, hx, rfl⟩
  have sub : ∀ i, Fp p g (eset P.E k ⟨l, o.cost⟩) i → Fp p g P.E i := by
    rintro i (hi | hi | hi | ⟨x, hx, hi⟩)
    · exact .inl hi
    · exact .inr (.inl hi)
    · exact .inr (.inr (.inl hi))
    · obtain ⟨y, hy, e⟩ := back x hx
      exact .inr (.inr (.inr ⟨y, hy, by rw [hi, e]⟩))
  refine ⟨{ h with
    cells := kp.at h.cells (fun e => hrb.1 e.symm)
    caps := h.caps.keep kp (fun x hx e => hrb.2.2 (e ▸ hx))
    map := ?_
    rows := ?_
    inj := ?_
    rb := ?_
    off := fun e => h.off (sub _ e) }, kp.mono (fun x _ hx => .inr (.inr (.inr ⟨_, hm, hx⟩))), sub⟩
  · have hkeep : EMap oenc w' p.ob (tag g P.E) := h.map.keep kp (fun e => hrb.2.1 e.symm)
    have hval : aset (encs oenc (tag g P.E)) k (oenc (g k, ⟨l, o.cost⟩)) = encs oenc (tag g P.E) := by
      refine aset_same hkeep ?_
      rw [aget_encs, eget_tag, ho]
      simp [oenc, hl]
    have h7 : tag g (eset P.E k ⟨l, o.cost⟩) = eset (tag g P.E) k (g k, ⟨l, o.cost⟩) := by
      rw [tag_eset, hgg]
    rw [h7]
    show IMap w' p.ob (encs oenc (eset (tag g P.E) k (g k, ⟨l, o.cost⟩)))
    rw [← aset_encs, hval]
    exact hkeep
  · intro x hx
    rcases mem_eset hx with rfl | ⟨hx, hk⟩
    · exact row
    · exact (h.rows x hx).keep kp (fun e => hk (h.inj x hx _ hm e))
  · intro x hx y hy e
    obtain ⟨x', hx', ex⟩ := back x hx
    obtain ⟨y', hy', ey⟩ := back y hy
    rw [← ex, ← ey] at e ⊢
    exact h.inj x' hx' y' hy' e
  · intro x hx
    obtain ⟨x', hx', ex⟩ := back x hx
    rw [← ex]; exact h.rb x' hx'
theorem PAt.setn {w : World} {p : Plc} {g : Int → Rw} {P : PP} (h : PAt w p g P) (n : Nat) : PAt (w.setCell ⟨p.b, 5, none⟩ (.int .i64 (n : Int))) p g { P with n := n } := by
  have kp : Keeps (fun x => x = p.b) w (w.setCell ⟨p.b, 5, none⟩ (.int .i64 (n : Int))) := (Keeps.refl _ _).setCell _ _ (.inl rfl)
  exact { h with
    cells := set_of h.cells 5 _
    caps := h.caps.keep kp (fun x hx e => h.bc (e ▸ hx))
    map := h.map.keep kp (fun e => h.bo e.symm)
    rows := fun x hx => (h.rows x hx).keep kp (h.rb x hx).1 }
theorem charged_any (w : World) (p : Plc) (g : Int → Rw) (P : PP) (H : PAt w p g P) (hs : sum P.E ≤ 1000000) :
    Calls Tryd.prog 25 #[.pointer (some ⟨p.b, 0, none⟩)] w fun e w' => e = .returned (.int .i64 (sum P.E)) ∧ Keeps (fun _ => False) w w' := by
  have := charged_tag w p.b p.c.c p.ob P.k P.q P.t P.n (tag g P.E) H.cells H.map (by rw [sumT_tag]; exact hs)
  rw [sumT_tag] at this
  exact this
def DropR (w : World) (p : Plc) (g : Int → Rw) (P P' : PP) (e : Ending) (w' : World) : Prop := e = .returned (.tuple #[]) ∧ PR w p g P P' w'
set_option maxRecDepth 100000 in
set_option maxHeartbeats 1000000 in
theorem drop_any (w : World) (p : Plc) (g : Int → Rw) (P : PP) (a : Int) (H : PAt w p g P) :
    Calls Tryd.prog 34 #[.pointer (some ⟨p.b, 0, none⟩), .int .i64 a] w (DropR w p g P (drop P a)) := by
  have q := Ca.revoke_any w p.c P.C a H.caps
  unfold drop
  generalize Ca.revoke P.C a = C' at q ⊢
  have c0 := cell_of (v := .pointer (some ⟨p.c.c, 0, none⟩)) H.cells 0 rfl
  have HH := Hid.of H
  clear H
  go_enter Tryd.func34, Tryd.ntmps34
  go_wp2_with fail
  refine q.mono ?_
  rintro e w1 ⟨n, rfl, a1, k1⟩
  have H1 := HH.out.caps' a1 k1
  have c4 := cell_of (v := .map (some p.ob)) H1.cells 4 rfl
  obtain ⟨w2, dl, M2, k2⟩ := H1.map.del (P := Tryd.prog) (ty := 0) 3 Tryd.underlying56 Tryd.underlying3 a
  have HF : Hid (PR w p g P { P with C := C', E := edel P.E a } w2) := Hid.of (by
    have r1 := PR.caps HH.out a1 k1
    obtain ⟨g', b1, b2, b3⟩ := r1
    exact PR.trans (P1 := { P with C := C' }) (k1.mono (fun x _ hx => .inr (.inr (.inl hx)))) (fun i hi => .inl hi) (H1.del M2 k2))
  clear q a1 k1 H1 M2 k2 c0
  go_wp2
  go_end0
  exact ⟨rfl, HF.out⟩
end Mo
end Go.Proofs.YtagmkkddjdlncaaDoor

/-! The model package's walk: make. -/
namespace Go.Proofs.YtagmkkddjdlncaaDoor
open Go.RowKit Go.ChangeMaps
namespace Mo
theorem PAt.drew {w : World} {p : Plc} {g : Int → Rw} {P : PP} (h : PAt w p g P) : PAt w.drew p g P := h.old ((Keeps.refl _ _).drew)
def MkR (w : World) (p : Plc) (g : Int → Rw) (P : PP) (h : Nat) (E : Int) (P' : PP) (e : Ending) (w' : World) : Prop := e = .returned (.tuple #[.int .u64 h, .int .i64 E]) ∧ ∃ g', PRG w p g P g' P' w' ∧ ∀ j, j ≠ (P.n : Int) → g' j = g j
set_option maxRecDepth 100000 in
set_option maxHeartbeats 1000000 in
theorem make_any (w : World) (p : Plc) (g : Int → Rw) (P : PP) (m : Int) (H : PAt w p g P) (ok : Ok P) (hT : Sh.Tab w) :
    Calls Tryd.prog 32 #[.pointer (some ⟨p.b, 0, none⟩), .int .i64 m] w (MkR w p g P (mk P m).1.1 (mk P m).1.2 (mk P m).2) := by
  have hsq := ok.sum
  have hq1 := ok.q
  have q1 := Cl.charge_any w m
  by_cases h0 : Cl.charge m = 0
  · have e : mk P m = ((0, 2), P) := by unfold mk; rw [if_pos h0]
    rw [e]
    rw [h0] at q1
    have HF : Hid (∃ g', PRG w p g P g' P w ∧ ∀ j, j ≠ (P.n : Int) → g' j = g j) := Hid.of ⟨g, ⟨H, Keeps.refl _ _, fun i hi => .inl hi⟩, fun _ _ => rfl⟩
    clear h0 e H ok hT hsq
    go_enter Tryd.func32, Tryd.ntmps32
    go_wp2_with fail
    refine q1.mono ?_
    rintro e w1 ⟨rfl, rfl⟩
    clear q1
    go_wp2
    go_ret2
    exact ⟨rfl, HF.out⟩
  · have hr := Cl.charge_ne h0
    have hcr := Cl.charge_range hr
    have q2 := charged_any w.drew p g P H.drew (by omega)
    have c2 := cell_of (v := .int .i64 P.q) H.cells 2 rfl
    by_cases hq : (P.q : Int) < sum P.E + Cl.charge m
    · have e : mk P m = ((0, 3), P) := by unfold mk; rw [if_neg h0, if_pos hq]
      rw [e]
      clear e
      generalize sum P.E = S at *
      obtain ⟨Q, hQ⟩ : ∃ Q : Int, (P.q : Int) = Q := ⟨_, rfl⟩
      rw [hQ] at c2 hq
      generalize Cl.charge m = c at *
      have t0 : (c == 0) = false := by simpa using h0
      have wr : IntKind.i64.wrap ((S : Int) + c) = S + c := IntWalk.i64_in _ (by omega)
      have HH := Hid.of H
      clear h0 H ok hT hsq hq1 hr hcr hQ
      go_enter Tryd.func32, Tryd.ntmps32
      go_wp2_with fail
      refine q1.mono ?_
      rintro e w1 ⟨rfl, rfl⟩
      clear q1
      go_wp2
      go_region_held3 (fun wx => wx.cell? ⟨p.b, 2, none⟩ = some (.int .i64 Q))
        (first | exact c2 | exact c2')
        (first
          | (go_at_call 25; refine q2.mono ?_; clear q2; rintro e w2 ⟨rfl, k2⟩; have c2' := keep_cell1 k2.of_drew c2; have HF : Hid (∃ g', PRG w p g P g' P w2 ∧ ∀ j, j ≠ (P.n : Int) → g' j = g j) := Hid.of ⟨g, ⟨HH.out.old k2.of_drew, k2.of_drew.mono (fun _ _ x => x.elim), fun i hi => .inl hi⟩, fun _ _ => rfl⟩))
      go_wp2
      go_ret2
      exact ⟨rfl, HF.out⟩
    · obtain ⟨M, rfl⟩ : ∃ M : Nat, m = M := ⟨m.toNat, by omega⟩
      obtain ⟨c, hc⟩ : ∃ c : Nat, Cl.charge (M : Int) = c := ⟨(Cl.charge (M : Int)).toNat, by omega⟩
      have mkE : mk P M = if (Ca.grant P.C P.n).1.2 = 0 then ((Ca.grant P.C P.n).1, { P with C := (Ca.grant P.C P.n).2, E := eset P.E P.n ⟨List.replicate M 0, c⟩, n := P.n + 1 })
          else ((Ca.grant P.C P.n).1, { P with C := (Ca.grant P.C P.n).2 }) := by
        unfold mk; rw [if_neg h0, if_neg hq, hc]; simp only [Int.toNat_natCast]
      rw [mkE]
      clear mkE
      rw [hc] at q1 hq h0 hcr
      have hM : M ≤ 8192 := by omega
      have c0 := cell_of (v := .pointer (some ⟨p.c.c, 0, none⟩)) H.cells 0 rfl
      have c5 := cell_of (v := .int .i64 P.n) H.cells 5 rfl
      have qg := fun w1 (k : Keeps (fun _ => False) w w1) => Ca.grant_any w1.drew p.c P.C (P.n : Int) ((H.old k).caps.old ((Keeps.refl _ _).drew)) ok.ca ((hT.old k).old ((Keeps.refl _ _).drew))
      have hnone := ok.new_none
      have hcn := ok.cn
      have hcN := ok.cN
      obtain ⟨n, hn⟩ : ∃ n : Int, (P.n : Int) = n := ⟨_, rfl⟩
      have hnr : 0 ≤ n ∧ n ≤ 17592186044416 := by omega
      obtain ⟨Q, hQ⟩ : ∃ Q : Int, (P.q : Int) = Q := ⟨_, rfl⟩
      rw [hQ] at c2 hq
      have HN := Hid.of hn
      rw [hn] at c5 qg hnone ⊢
      generalize sum P.E = S at *
      have t0 : ((c : Int) == 0) = false := by simpa using h0
      have wr : IntKind.i64.wrap ((S : Int) + c) = S + c := IntWalk.i64_in _ (by omega)
      have tq : decide (Q < (S : Int) + c) = false := by simpa using hq
      have HH := Hid.of (And.intro H hT)
      generalize (Ca.grant P.C n).2 = C' at qg ⊢
      generalize (Ca.grant P.C n).1 = r at qg ⊢
      obtain ⟨rh, rE⟩ := r
      dsimp only at qg ⊢
      have HQ := Hid.of qg
      obtain ⟨R, hR⟩ : ∃ R, (if rE = 0 then ((rh, rE), { P with C := C', E := eset P.E n ⟨List.replicate M 0, c⟩, n := P.n + 1 }) else ((rh, rE), { P with C := C' })) = R := ⟨_, rfl⟩
      rw [hR]
      have HR := Hid.of hR
      clear h0 H ok hT hsq hq1 hr hcr hQ hq hc hn hcn hcN qg hR
      go_enter Tryd.func32, Tryd.ntmps32
      go_wp2_with fail
      refine q1.mono ?_
      rintro e w1 ⟨rfl, rfl⟩
      clear q1
      go_wp2
      go_region_held3 (fun wx => wx.cell? ⟨p.b, 2, none⟩ = some (.int .i64 Q))
        (first | exact c2 | exact c2')
        (first
          | (go_at_call 25; refine q2.mono ?_; clear q2; rintro e w2 ⟨rfl, k2⟩; have c2' := keep_cell1 k2.of_drew c2; have K2 := Hid.of k2.of_drew))
      have d0 := keep_cell1 K2.out c0
      have d5 := keep_cell1 K2.out c5
      have qg2 := HQ.out w2 K2.out
      clear HQ c0 c5 c2 c2' tq wr
      go_wp2
      go_region_held3 (fun wx => wx.cell? ⟨p.b, 0, none⟩ = some (.pointer (some ⟨p.c.c, 0, none⟩)) ∧ wx.cell? ⟨p.b, 5, none⟩ = some (.int .i64 n))
        (first | exact ⟨d0, d5⟩ | exact ⟨e0, e5⟩)
        (first
          | (go_at_call 47; refine qg2.mono ?_; clear qg2; rintro e w3 ⟨rfl, a3, k3⟩; have H3 := (HH.out.1.old K2.out).caps' a3 k3.of_drew; have e0 := cell_of (v := .pointer (some ⟨p.c.c, 0, none⟩)) H3.cells 0 rfl; have e5 : w3.cell? ⟨p.b, 5, none⟩ = some (.int .i64 n) := (by rw [← HN.out]; exact cell_of H3.cells 5 rfl); have HH3 := Hid.of (And.intro H3 k3.of_drew); clear a3 k3 H3))
      by_cases hE : rE = 0
      · subst hE
        have mk2 : ∀ w, (Instr.makeSlice 61 (.int .i64 M) (.int .i64 M)).run Tryd.prog w = .ok (.slice (some ⟨w.heap.size, 0, none⟩) M M) (w.alloc (.cells (u8s (List.replicate M 0)).toArray 5)) := fun w => make_bytes w M (by omega)
        have H3 := HH3.out.1
        have c4 := cell_of (v := .map (some p.ob)) H3.cells 4 rfl
        obtain ⟨rw', hrw⟩ : ∃ r, w3.drew.heap.size = r := ⟨_, rfl⟩
        obtain ⟨w4, hw4⟩ : ∃ w4, w3.drew.alloc (.cells (u8s (List.replicate M 0)).toArray 5) = w4 := ⟨_, rfl⟩
        have k4 : Keeps (fun _ => False) w3 w4 := by rw [← hw4]; exact ((Keeps.refl _ _).drew).alloc _
        have row : BAt w4 rw' (List.replicate M 0) [] := BAt.of (by rw [← hw4, ← hrw]; exact alloc_new _ _)
        have H4 := H3.old k4
        have f4 := cell_of (v := .map (some p.ob)) H4.cells 4 rfl
        have f5 : w4.cell? ⟨p.b, 5, none⟩ = some (.int .i64 n) := by rw [← HN.out]; exact cell_of H4.cells 5 rfl
        obtain ⟨w5, up, M5, k5⟩ := H4.map.upd (P := Tryd.prog) 3 Tryd.underlying56 Tryd.underlying3 n ((⟨rw', []⟩ : Rw), (⟨List.replicate M 0, c⟩ : MO))
        have HU := Hid.of (And.intro H3 (And.intro k4 (And.intro row (And.intro H4 (And.intro M5 k5)))))
        unfold oenc at up
        simp only [List.length_replicate, List.length_nil, Nat.add_zero] at up
        clear k4 row H3 H4 M5 k5
        go_wp2
        go_region
        clear up f4 f5 c4 e0 e5 mk2
        have HR5 : Hid (PRG w p g P (gset g n ⟨rw', []⟩) { P with C := C', E := eset P.E n ⟨List.replicate M 0, c⟩ } w5) := Hid.of (by
          obtain ⟨H3, k4, row, H4, M5, k5⟩ := HU.out
          have K23 : Keeps (Fp p g P.E) w2 w3 := HH3.out.2.mono (fun x _ hx => .inr (.inr (.inl hx)))
          have K3 : Keeps (Fp p g P.E) w w3 := (K2.out.mono (fun _ _ x => x.elim)).trans K23
          have T3 : Sh.Tab w3 := HH.out.2.keep K3 HH.out.1.off
          exact PRG.trans (P1 := { P with C := C' }) K3 (fun i hi => .inl hi) (PAt.put (P := { P with C := C' }) H3 (by rw [← hrw]; exact Nat.le_refl _) k4 row M5 k5 T3))
        obtain ⟨a5, K5, F5⟩ := HR5.out
        clear HR5 HU
        have e5 : w5.cell? ⟨p.b, 5, none⟩ = some (.int .i64 n) := by rw [← HN.out]; exact cell_of a5.cells 5 rfl
        have fr5 := free_of a5.cells 5
        have hinc : wrap64 (n + 1) = n + 1 := by unfold wrap64; omega
        have A6 := a5.setn (P.n + 1)
        rw [show ((P.n + 1 : Nat) : Int) = n + 1 by have := HN.out; omega] at A6
        obtain ⟨w6, hw6⟩ : ∃ w6, w5.setCell ⟨p.b, 5, none⟩ (.int .i64 (n + 1)) = w6 := ⟨_, rfl⟩
        rw [hw6] at A6
        have hRe := HR.out
        simp only [if_true, eq_self] at hRe
        have HF : Hid (∃ g', PRG w p g P g' R.2 w6 ∧ ∀ j, j ≠ (P.n : Int) → g' j = g j) := Hid.of (by
          rw [← hRe]
          exact ⟨gset g n ⟨rw', []⟩, ⟨A6, by rw [← hw6]; exact K5.setCell _ _ (.inl (.inl rfl)), F5⟩, fun j hj => gset_other _ _ _ (by rw [← HN.out]; exact hj)⟩)
        subst hRe
        clear A6 a5 K5 F5
        go_wp2
        go_ret2
        exact ⟨rfl, HF.out⟩
      · have tE : (rE == 0) = false := by simpa using hE
        have hRe := HR.out
        rw [if_neg hE] at hRe
        have HF : Hid (∃ g', PRG w p g P g' { P with C := C' } w3 ∧ ∀ j, j ≠ (P.n : Int) → g' j = g j) := Hid.of ⟨g, PRG.trans (P1 := P) (K2.out.mono (fun _ _ x => x.elim)) (fun i hi => .inl hi) ⟨HH3.out.1, HH3.out.2.mono (fun x _ hx => .inr (.inr (.inl hx))), fun i hi => .inl hi⟩, fun _ _ => rfl⟩
        subst hRe
        clear hE
        go_wp2
        go_ret2
        exact ⟨rfl, HF.out⟩
end Mo
end Go.Proofs.YtagmkkddjdlncaaDoor

/-! The model package's walk: span. -/
namespace Go.Proofs.YtagmkkddjdlncaaDoor
open Go.RowKit Go.ChangeMaps
namespace Mo
theorem Ok.fnd {P : PP} (ok : Ok P) {h : Nat} {r : Int} (he : (Ca.Fnd P.C h r).2 = 0) : ∃ o, eget P.E (Ca.Fnd P.C h r).1 = some o := by
  unfold Ca.Fnd at he ⊢
  cases hf : Ca.fnd P.C h with
  | none => rw [hf] at he; simp at he
  | some y =>
    rw [hf] at he
    dsimp only at he ⊢
    split at he
    · rename_i h1
      rw [if_pos h1]
      split at he
      · rename_i h2
        rw [if_pos h2]
        have hm : ∃ k, eget P.C.E k = some y := by
          unfold Ca.fnd at hf
          split at hf
          · split at hf
            · rename_i x hx
              split at hf
              · cases hf; exact ⟨_, hx⟩
              · cases hf
            · cases hf
          · cases hf
        obtain ⟨k, hk⟩ := hm
        have := ok.slots _ (eget_memE hk)
        exact Option.isSome_iff_exists.1 this
      · simp at he
    · simp at he
theorem PAt.look {w : World} {p : Plc} {g : Int → Rw} {P : PP} (H : PAt w p g P) {k : Int} {o : MO} (ho : eget P.E k = some o) :
    (Instr.lookup 56 (.map (some p.ob)) (.int .i64 k) false).run Tryd.prog w = .ok (.agg #[.slice (some ⟨(g k).b, 0, none⟩) o.bs.length (o.bs.length + (g k).t.length), .int .i64 o.cost]) w := by
  have := IMap.look_some (P := Tryd.prog) H.map 3 Tryd.underlying56 Tryd.underlying3 k (v := oenc (g k, o)) (by rw [aget_encs, eget_tag, ho]; rfl) false
  exact this
theorem fld_bytes (A : Option Addr) (n c : Nat) (v : Value) (w : World) : (Instr.field 63 (.agg #[.slice A n c, v]) 0).run Tryd.prog w = .ok (.slice A n c) w := by kernel_rfl
theorem fld_cost (u : Value) (n : Int) (w : World) : (Instr.field 63 (.agg #[u, .int .i64 n]) 1).run Tryd.prog w = .ok (.int .i64 n) w := by kernel_rfl
def so (o : MO) (t : List Value) (from' : Int) : Nat := if o.bs.length + t.length = from'.toNat then 0 else from'.toNat
def SpanQ (w : World) (E : Int) (V : Value) (e : Ending) (w' : World) : Prop := ∃ v, e = .returned (.tuple #[v, .int .i64 E]) ∧ Keeps (fun _ => False) w w' ∧ (E ≠ 0 → v = .slice none 0 0) ∧ (E = 0 → v = V)
def SpanR (w : World) (p : Plc) (g : Int → Rw) (P : PP) (h : Nat) (r from' n : Int) : Ending → World → Prop :=
  SpanQ w (spanE P h r from' n) (.slice (some ⟨(g (Ca.Fnd P.C h r).1).b, so (obj P (Ca.Fnd P.C h r).1) (g (Ca.Fnd P.C h r).1).t from', none⟩) n.toNat ((obj P (Ca.Fnd P.C h r).1).bs.length + (g (Ca.Fnd P.C h r).1).t.length - from'.toNat))
theorem SpanQ.ok {w w' : World} {V : Value} (k : Keeps (fun _ => False) w w') : SpanQ w 0 V (.returned (.tuple #[V, .int .i64 0])) w' := ⟨V, rfl, k, fun h => absurd rfl h, fun _ => rfl⟩
theorem SpanQ.no {w w' : World} {V : Value} {E : Int} (hE : E ≠ 0) (k : Keeps (fun _ => False) w w') : SpanQ w E V (.returned (.tuple #[.slice none 0 0, .int .i64 E])) w' := ⟨_, rfl, k, fun _ => rfl, fun h => absurd h hE⟩
set_option maxRecDepth 100000 in
set_option maxHeartbeats 1000000 in
theorem span_any (w : World) (p : Plc) (g : Int → Rw) (P : PP) (h : Nat) (r from' n : Int) (H : PAt w p g P) (ok : Ok P) (hh : h < 18446744073709551616) (hn : n ≤ 9223372036854775807) (hf : from' ≤ 9223372036854775807) :
    Calls Tryd.prog 36 #[.pointer (some ⟨p.b, 0, none⟩), .int .u64 h, .int .i64 r, .int .i64 from', .int .i64 n] w (SpanR w p g P h r from' n) := by
  have q := Ca.Find_any w p.c P.C h r H.caps hh
  have c0 := cell_of (v := .pointer (some ⟨p.c.c, 0, none⟩)) H.cells 0 rfl
  by_cases he : (Ca.Fnd P.C h r).2 = 0
  · obtain ⟨o, ho⟩ := ok.fnd he
    have hob : obj P (Ca.Fnd P.C h r).1 = o := by unfold obj; rw [ho]; rfl
    have hlen := (ok.sz _ (eget_memE ho)).2
    have hlen2 : o.bs.length ≤ 8192 := by simp only at hlen; omega
    have hE : spanE P h r from' n = if 0 ≤ from' ∧ 0 ≤ n ∧ from' ≤ o.bs.length ∧ n ≤ o.bs.length - from' then 0 else 4 := by
      unfold spanE; rw [if_neg (by rw [he]; simp), hob]
    unfold SpanR
    rw [hE, hob]
    rw [he] at q
    generalize (Ca.Fnd P.C h r).1 = k at *
    have HH := Hid.of H
    have HO := Hid.of ho
    obtain ⟨L, hL⟩ : ∃ L, o.bs.length = L := ⟨_, rfl⟩
    rw [hL] at hlen2 ⊢
    obtain ⟨cp, hcp⟩ : ∃ cp, L + (g k).t.length = cp := ⟨_, rfl⟩
    have hLc : L ≤ cp := by omega
    rw [hcp]
    obtain ⟨V, hV⟩ : ∃ V, Value.slice (some ⟨(g k).b, so o (g k).t from', none⟩) n.toNat (cp - from'.toNat) = V := ⟨_, rfl⟩
    rw [hV]
    have HV := Hid.of hV
    unfold so at hV
    rw [hL, hcp] at hV
    have HV := Hid.of hV
    clear hV
    have hmin := fun ts ty w => Op1.run_min_i (P := Tryd.prog) ts ty from' n w
    have hs := fun (lo hi : Nat) (h1 : lo ≤ hi) (h2 : hi ≤ cp) => bsl_lh (g k).b L lo hi cp h1 h2
    have HS := Hid.of hs
    have hfl := fld_bytes
    clear hs hlen hE hob ok H ho he
    by_cases hc : 0 ≤ from' ∧ 0 ≤ n ∧ from' ≤ L ∧ n ≤ L - from'
    · rw [if_pos hc]
      obtain ⟨f, rfl⟩ : ∃ f : Nat, from' = f := ⟨from'.toNat, by omega⟩
      obtain ⟨m, rfl⟩ : ∃ m : Nat, n = m := ⟨n.toNat, by omega⟩
      have hM : ¬ (if (m : Int) < f then (m : Int) else f) < 0 := by split <;> omega
      generalize (if (m : Int) < f then (m : Int) else f) = M at *
      have t1 : decide (M < 0) = false := by simpa using hM
      have t2 : decide (L < f) = false := by simp; omega
      have wr : IntKind.i64.wrap ((L : Int) - f) = L - f := IntWalk.i64_in _ (by omega)
      have wr' : wrap64 ((L : Int) - f) = L - f := by unfold wrap64; omega
      have ws : wrap64 ((f : Int) + m) = ((f + m : Nat) : Int) := by unfold wrap64; omega
      have t3 : decide ((L : Int) - f < m) = false := by simp; omega
      have hV := HV.out
      simp only [Int.toNat_natCast] at hV
      clear hM HV
      by_cases hLf : cp = f
      · rw [if_pos hLf] at hV
        obtain rfl : m = 0 := by omega
        subst hLf
        have hLL : L = cp := by omega
        subst hLL
        obtain ⟨s1, s2⟩ := HS.out L (L + 0) (by omega) (by omega)
        rw [if_pos rfl] at s1 s2
        rw [Nat.sub_self] at hV
        have HV := Hid.of hV
        clear hc HS hV
        go_enter Tryd.func36, Tryd.ntmps36
        go_wp2_with fail
        refine q.mono ?_
        rintro e w1 ⟨rfl, k1⟩
        have H1 := HH.out.old k1
        have lk := H1.look HO.out
        rw [hL, hcp] at lk
        have c4 := cell_of (v := .map (some p.ob)) H1.cells 4 rfl
        have HK := Hid.of k1
        clear k1 H1 q
        go_wp2
        all_goals
          go_ret2
          rw [← HV.out]
          exact SpanQ.ok HK.out
      · rw [if_neg hLf] at hV
        obtain ⟨hi, hhi⟩ : ∃ hi, f + m = hi := ⟨_, rfl⟩
        rw [hhi] at ws
        obtain ⟨s1, s2⟩ := HS.out f hi (by omega) (by omega)
        rw [if_neg hLf] at s1 s2
        rw [show hi - f = m by omega] at s1 s2
        have HV := Hid.of hV
        clear hc HS hV hhi
        go_enter Tryd.func36, Tryd.ntmps36
        go_wp2_with fail
        refine q.mono ?_
        rintro e w1 ⟨rfl, k1⟩
        have H1 := HH.out.old k1
        have lk := H1.look HO.out
        rw [hL, hcp] at lk
        have c4 := cell_of (v := .map (some p.ob)) H1.cells 4 rfl
        have HK := Hid.of k1
        clear k1 H1 q
        go_wp2
        go_ret2
        rw [← HV.out]
        exact SpanQ.ok HK.out
    · rw [if_neg hc]
      have hM : (if n < from' then n else from') < 0 ∨ (¬ (if n < from' then n else from') < 0 ∧ (L : Int) < from') ∨ (¬ (if n < from' then n else from') < 0 ∧ ¬ (L : Int) < from' ∧ (L : Int) - from' < n) := by
        split <;> omega
      have hbd : ¬ (if n < from' then n else from') < 0 → 0 ≤ from' := by split <;> omega
      generalize (if n < from' then n else from') = M at *
      clear hc HS
      rcases hM with h1 | ⟨h1, h2⟩ | ⟨h1, h2, h3⟩
      · have t1 : decide (M < 0) = true := by simpa using h1
        clear h1 hbd
        go_enter Tryd.func36, Tryd.ntmps36
        go_wp2_with fail
        refine q.mono ?_
        rintro e w1 ⟨rfl, k1⟩
        have H1 := HH.out.old k1
        have lk := H1.look HO.out
        rw [hL, hcp] at lk
        have c4 := cell_of (v := .map (some p.ob)) H1.cells 4 rfl
        have HK := Hid.of k1
        clear k1 H1 q
        go_wp2
        go_ret2
        exact SpanQ.no (by decide) HK.out
      · have t1 : decide (M < 0) = false := by simpa using h1
        have t2 : decide ((L : Int) < from') = true := by simpa using h2
        clear h1 h2 hbd
        go_enter Tryd.func36, Tryd.ntmps36
        go_wp2_with fail
        refine q.mono ?_
        rintro e w1 ⟨rfl, k1⟩
        have H1 := HH.out.old k1
        have lk := H1.look HO.out
        rw [hL, hcp] at lk
        have c4 := cell_of (v := .map (some p.ob)) H1.cells 4 rfl
        have HK := Hid.of k1
        clear k1 H1 q
        go_wp2
        go_ret2
        exact SpanQ.no (by decide) HK.out
      · have hfb := hbd h1
        have t1 : decide (M < 0) = false := by simpa using h1
        have t2 : decide ((L : Int) < from') = false := by simpa using h2
        have wr : IntKind.i64.wrap ((L : Int) - from') = L - from' := IntWalk.i64_in _ (by omega)
        have wr' : wrap64 ((L : Int) - from') = L - from' := by unfold wrap64; omega
        have t3 : decide ((L : Int) - from' < n) = true := by simpa using h3
        clear h1 h2 h3 hbd hfb
        go_enter Tryd.func36, Tryd.ntmps36
        go_wp2_with fail
        refine q.mono ?_
        rintro e w1 ⟨rfl, k1⟩
        have H1 := HH.out.old k1
        have lk := H1.look HO.out
        rw [hL, hcp] at lk
        have c4 := cell_of (v := .map (some p.ob)) H1.cells 4 rfl
        have HK := Hid.of k1
        clear k1 H1 q
        go_wp2
        go_ret2
        exact SpanQ.no (by decide) HK.out
  · have hE : spanE P h r from' n = (Ca.Fnd P.C h r).2 := by unfold spanE; rw [if_pos he]
    unfold SpanR
    rw [hE]
    generalize (Ca.Fnd P.C h r).2 = E at *
    generalize (Ca.Fnd P.C h r).1 = k at *
    have t0 : (E != 0) = true := by simpa using he
    have HE := Hid.of he
    clear hE he ok H
    go_enter Tryd.func36, Tryd.ntmps36
    go_wp2_with fail
    refine q.mono ?_
    rintro e w1 ⟨rfl, k1⟩
    have HK := Hid.of k1
    clear k1 q
    go_wp2
    go_ret2
    exact SpanQ.no HE.out HK.out
theorem span_ok {P : PP} {h : Nat} {r f n : Int} (he : spanE P h r f n = 0) : (Ca.Fnd P.C h r).2 = 0 ∧ 0 ≤ f ∧ 0 ≤ n ∧ f ≤ (obj P (Ca.Fnd P.C h r).1).bs.length ∧ n ≤ (obj P (Ca.Fnd P.C h r).1).bs.length - f := by
  unfold spanE at he
  split at he
  · rename_i h1; exact absurd he h1
  · rename_i h1
    split at he
    · rename_i h2
      exact ⟨by omega, h2.1, h2.2.1, h2.2.2.1, h2.2.2.2⟩
    · simp at he
theorem span_rd {w : World} {b : Nat} {o : MO} {tl : List Value} (row : BAt w b o.bs tl) {f n : Int} (h0 : 0 ≤ f) (h1 : 0 ≤ n) (h2 : f ≤ o.bs.length) (h3 : n ≤ o.bs.length - f) : Rd w (some ⟨b, so o tl f, none⟩) (u8s ((o.bs.drop f.toNat).take n.toNat)) := by
  unfold so
  split
  · rename_i e
    have : n.toNat = 0 := by omega
    rw [this, List.take_zero]
    exact Rd.nil _ _
  · exact row.rd f.toNat n.toNat
theorem so_put {o : MO} {tl : List Value} {f : Int} {d : Bs} (h0 : 0 ≤ f) (h2 : f ≤ o.bs.length) (h3 : (d.length : Int) ≤ o.bs.length - f) : bput o.bs (so o tl f) d = bput o.bs f.toNat d ∧ so o tl f + d.length ≤ o.bs.length := by
  unfold so
  split
  · have : d = [] := List.eq_nil_of_length_eq_zero (by omega)
    subst this
    rw [bput_nil, bput_nil]
    exact ⟨rfl, by simp⟩
  · exact ⟨rfl, by omega⟩
end Mo
end Go.Proofs.YtagmkkddjdlncaaDoor

/-! The model package's walk: realloc. -/
namespace Go.Proofs.YtagmkkddjdlncaaDoor
open Go.RowKit Go.ChangeMaps
namespace Mo
theorem mk_ok {P : PP} {m : Int} (h : (mk P m).1.2 = 0) : ∃ C' c, (mk P m).2 = { P with C := C', E := eset P.E P.n ⟨List.replicate m.toNat 0, c⟩, n := P.n + 1 } ∧ 1 ≤ m ∧ m ≤ 8192 ∧ c = (Cl.charge m).toNat := by
  unfold mk at h ⊢
  by_cases h0 : Cl.charge m = 0
  · rw [if_pos h0] at h; simp at h
  · rw [if_neg h0] at h ⊢
    have hr := Cl.charge_ne h0
    by_cases hq : (P.q : Int) < sum P.E + Cl.charge m
    · rw [if_pos hq] at h; simp at h
    · rw [if_neg hq] at h ⊢
      by_cases hE : (Ca.grant P.C P.n).1.2 = 0
      · rw [if_pos hE]
        exact ⟨_, _, rfl, by omega, by omega, rfl⟩
      · rw [if_neg hE] at h
        exact absurd h hE
theorem take_min (l : Bs) (M : Nat) : (l.take M).length = Nat.min l.length M := by rw [List.length_take, Nat.min_comm]
def ReaR (w : World) (p : Plc) (g : Int → Rw) (P : PP) (h : Nat) (E : Int) (P' : PP) (e : Ending) (w' : World) : Prop := e = .returned (.tuple #[.int .u64 h, .int .i64 E]) ∧ PR w p g P P' w'
set_option maxRecDepth 100000 in
set_option maxHeartbeats 2000000 in
theorem realloc_any (w : World) (p : Plc) (g : Int → Rw) (P : PP) (h : Nat) (m : Int) (H : PAt w p g P) (ok : Ok P) (hT : Sh.Tab w) (hh : h < 18446744073709551616) :
    Calls Tryd.prog 35 #[.pointer (some ⟨p.b, 0, none⟩), .int .u64 h, .int .i64 m] w (ReaR w p g P (realloc P h m).1.1 (realloc P h m).1.2 (realloc P h m).2) := by
  have q := Ca.Find_any w p.c P.C h 4 H.caps hh
  have c0 := cell_of (v := .pointer (some ⟨p.c.c, 0, none⟩)) H.cells 0 rfl
  by_cases he : (Ca.Fnd P.C h 4).2 = 0
  · obtain ⟨o, ho⟩ := ok.fnd he
    have hob : obj P (Ca.Fnd P.C h 4).1 = o := by unfold obj; rw [ho]; rfl
    have hsz := ok.sz _ (eget_memE ho)
    simp only at hsz
    have hR : realloc P h m = if 0 ≤ Cl.kind m ∧ Cl.charge m ≤ o.cost then
        ((h, 0), { P with E := eset P.E (Ca.Fnd P.C h 4).1 ⟨resz o.bs m.toNat, o.cost⟩ })
      else if (mk P m).1.2 ≠ 0 then ((0, (mk P m).1.2), (mk P m).2)
      else (((mk P m).1.1, 0), drop { (mk P m).2 with E := eset (mk P m).2.E P.n ⟨resz o.bs m.toNat, (Cl.charge m).toNat⟩ } (Ca.Fnd P.C h 4).1) := by
      unfold realloc; rw [if_neg (by rw [he]; simp), hob]
    rw [hR]
    rw [he] at q
    have qo : ∀ w, Calls Tryd.prog 48 #[.int .i64 m] w fun e w' => e = .returned (.int .i64 (Cl.kind m)) ∧ w' = w := fun w => (Cl.of_any w m).mono fun e w' h => ⟨h.1, h.2.symm⟩
    have qc : ∀ w, Calls Tryd.prog 46 #[.int .i64 m] w fun e w' => e = .returned (.int .i64 (Cl.charge m)) ∧ w' = w := fun w => (Cl.charge_any w m).mono fun e w' h => ⟨h.1, h.2.symm⟩
    generalize (Ca.Fnd P.C h 4).1 = k at *
    obtain ⟨ob, oc⟩ := o
    obtain ⟨L, hL⟩ : ∃ L, ob.length = L := ⟨_, rfl⟩
    obtain ⟨cc, hcp⟩ : ∃ cc, L + (g k).t.length = cc := ⟨_, rfl⟩
    simp only at hsz
    rw [hL] at hsz
    have HH := Hid.of (And.intro H hT)
    have HO := Hid.of ho
    have HQ := Hid.of (And.intro qo qc)
    by_cases hin : 0 ≤ Cl.kind m ∧ Cl.charge m ≤ oc
    · rw [if_pos hin]
      have hm : ¬ (m < 1 ∨ 8192 < m) := by
        intro hx
        have : Cl.kind m = -1 := by unfold Cl.kind; rw [if_pos hx]
        omega
      obtain ⟨M, rfl⟩ : ∃ M : Nat, m = M := ⟨m.toNat, by omega⟩
      rw [Int.toNat_natCast]
      have hM : 1 ≤ M ∧ M ≤ 8192 := by omega
      have t1 : decide (0 ≤ Cl.kind (M : Int)) = true := by simpa using hin.1
      have t2 : decide (Cl.charge (M : Int) ≤ (oc : Int)) = true := by simpa using hin.2
      obtain ⟨R, hR'⟩ : ∃ R, resz ob M = R := ⟨_, rfl⟩
      have hRl : R.length = M := by rw [← hR']; unfold resz; rw [bput_length]; · simp
                                    · simp; omega
      have HR := Hid.of (And.intro hR' hRl)
      rw [hR']
      generalize Cl.kind (M : Int) = kd at *
      generalize Cl.charge (M : Int) = cd at *
      clear hR H ok hT he hob ho hin hm hR' hRl qo qc
      go_enter Tryd.func35, Tryd.ntmps35
      go_wp2_with fail
      refine q.mono ?_
      rintro e w1 ⟨rfl, k1⟩
      clear q
      have H1 := HH.out.1.old k1
      have lk := H1.look HO.out
      simp only at lk
      rw [hL, hcp] at lk
      have c4 := cell_of (v := .map (some p.ob)) H1.cells 4 rfl
      obtain ⟨z, hz⟩ : ∃ z, w1.heap.size = z := ⟨_, rfl⟩
      obtain ⟨w2, hw2⟩ : ∃ w2, w1.alloc (.cells #[.slice (some ⟨(g k).b, 0, none⟩) L cc, .int .i64 oc] 63) = w2 := ⟨_, rfl⟩
      have z2 : w2.heap[z]? = some (.cells #[.slice (some ⟨(g k).b, 0, none⟩) L cc, .int .i64 oc] 63 (0, 0)) := by rw [← hw2, ← hz]; exact alloc_new _ _
      have k2 : Keeps (fun _ => False) w w2 := by rw [← hw2]; exact k1.alloc _
      have y0 := cell_of (v := .slice (some ⟨(g k).b, 0, none⟩) L cc) z2 0 rfl
      have y1 := cell_of (v := .int .i64 oc) z2 1 rfl
      have HW := Hid.of (And.intro z2 k2)
      clear H1 k1 z2 k2
      go_wp2
      go_quiet (first | (go_at_call 48; exact Calls.quiet_of_same (HQ.out.1 _)) | (go_at_call 46; exact Calls.quiet_of_same (HQ.out.2 _)))
      clear lk c4 y0 y1
      obtain ⟨w3, hw3⟩ : ∃ w3, w2.drewN nq = w3 := ⟨_, rfl⟩
      have k3 : Keeps (fun _ => False) w2 w3 := by rw [← hw3]; exact (Keeps.refl _ _).drewN _
      rw [hw3]
      have z3 := k3.at HW.out.1 (fun x => x)
      have K3 := HW.out.2.trans k3
      obtain ⟨r, hr⟩ : ∃ r, w3.heap.size = r := ⟨_, rfl⟩
      have mk2 : (Instr.makeSlice 61 (.int .i64 M) (.int .i64 M)).run Tryd.prog w3 = .ok (.slice (some ⟨r, 0, none⟩) M M) (w3.alloc (.cells (u8s (List.replicate M 0)).toArray 5)) := by rw [← hr]; exact make_bytes w3 M (by omega)
      obtain ⟨w4, hw4⟩ : ∃ w4, w3.alloc (.cells (u8s (List.replicate M 0)).toArray 5) = w4 := ⟨_, rfl⟩
      rw [hw4] at mk2
      have k4 : Keeps (fun _ => False) w3 w4 := by rw [← hw4]; exact (Keeps.refl _ _).alloc _
      have row4 : BAt w4 r (List.replicate M 0) [] := BAt.of (by rw [← hw4, ← hr]; exact alloc_new _ _)
      have z4 := k4.at z3 (fun x => x)
      have K4 := K3.trans k4
      have H4 := HH.out.1.old K4
      have rowk : BAt w4 (g k).b ob (g k).t := H4.rows _ (eget_memE HO.out)
      have hrw : w.heap.size ≤ r := by have := K3.size; omega
      obtain ⟨w5, cp, row5, k5⟩ := copy_bytes w4 r 0 M M L cc (List.replicate M 0) (ob.take M) (some ⟨(g k).b, 0, none⟩) row4 (by have := rowk.rd 0 M; simpa using this) (by simp) (by rw [take_min, hL]) (by simp; omega)
      have K5 : Keeps (fun _ => False) w w5 := K4.trans' k5 (fun x hx hlt => by omega)
      have hrz : z ≠ r := by have := (lt_of z3); omega
      have z5 := k5.at z4 hrz
      have row5' : BAt w5 r R [] := by rw [← HR.out.1]; exact row5
      have H5 := HH.out.1.old K5
      obtain ⟨w6, up, M6, k6⟩ := H5.map.drew.upd (P := Tryd.prog) 3 Tryd.underlying56 Tryd.underlying3 k ((⟨r, []⟩ : Rw), (⟨R, oc⟩ : MO))
      have HF : Hid (PR w p g P { P with E := eset P.E k ⟨R, oc⟩ } w6) := Hid.of ⟨_, PAt.put HH.out.1 hrw K5 row5' M6 k6.of_drew HH.out.2⟩
      unfold oenc at up
      simp only [HR.out.2, List.length_nil, Nat.add_zero] at up
      have d0 := cell_of (v := .slice (some ⟨(g k).b, 0, none⟩) L cc) z4 0 rfl
      have d1 := cell_of (v := .int .i64 oc) z5 1 rfl
      have d4 := cell_of (v := .map (some p.ob)) H5.cells 4 rfl
      clear HH HO HQ HR HW k3 z3 K3 hw3 hr hw4 k4 row4 z4 K4 H4 rowk hrw row5 k5 K5 hrz z5 row5' H5 M6 k6 hw2 hz t1 t2
      go_wp2
      go_region
      go_wp2
      go_ret2
      exact ⟨rfl, HF.out⟩
    · rw [if_neg hin]
      have hmk := mk_ok (P := P) (m := m)
      have qm := fun wx (kx : Keeps (fun _ => False) w wx) => make_any wx p g P m (H.old kx) ok (hT.old kx)
      have hnn := ok.new_none
      have hkn : k ≠ (P.n : Int) := by
        intro e
        rw [e, hnn] at ho
        cases ho
      generalize (mk P m).2 = P1 at *
      generalize (mk P m).1 = r1 at *
      obtain ⟨rh, rE⟩ := r1
      dsimp only at hmk qm ⊢
      obtain ⟨RR, hRR⟩ : ∃ RR, (if rE ≠ 0 then ((0, rE), P1) else ((rh, 0), drop { P1 with E := eset P1.E P.n ⟨resz ob m.toNat, (Cl.charge m).toNat⟩ } k)) = RR := ⟨_, rfl⟩
      rw [hRR]
      have HRR := Hid.of hRR
      have HM := Hid.of (And.intro hmk (And.intro hnn hkn))
      have HQM := Hid.of qm
      obtain ⟨n, hn⟩ : ∃ n : Int, (P.n : Int) = n := ⟨_, rfl⟩
      have HN := Hid.of hn
      have hc : decide (0 ≤ Cl.kind m) = false ∨ (decide (0 ≤ Cl.kind m) = true ∧ decide (Cl.charge m ≤ (oc : Int)) = false) := by
        by_cases h1 : 0 ≤ Cl.kind m
        · right
          refine ⟨by simpa using h1, ?_⟩
          have : ¬ Cl.charge m ≤ (oc : Int) := fun h2 => hin ⟨h1, h2⟩
          simpa using this
        · left; simpa using h1
      generalize Cl.kind m = kd at *
      obtain ⟨cd, hcd⟩ : ∃ cd, Cl.charge m = cd := ⟨_, rfl⟩
      rw [hcd] at hc HQ
      have HCD := Hid.of hcd
      clear hR H ok hT he hob ho hin qo qc hmk qm hRR hnn hkn hn hcd
      rcases hc with t1 | ⟨t1, t2⟩
      all_goals
        go_enter Tryd.func35, Tryd.ntmps35
        go_wp2_with fail
        refine q.mono ?_
        rintro e w1 ⟨rfl, k1⟩
        clear q
        have H1 := HH.out.1.old k1
        have lk := H1.look HO.out
        simp only at lk
        rw [hL, hcp] at lk
        have c4 := cell_of (v := .map (some p.ob)) H1.cells 4 rfl
        obtain ⟨z, hz⟩ : ∃ z, w1.heap.size = z := ⟨_, rfl⟩
        obtain ⟨w2, hw2⟩ : ∃ w2, w1.alloc (.cells #[.slice (some ⟨(g k).b, 0, none⟩) L cc, .int .i64 oc] 63) = w2 := ⟨_, rfl⟩
        have z2 : w2.heap[z]? = some (.cells #[.slice (some ⟨(g k).b, 0, none⟩) L cc, .int .i64 oc] 63 (0, 0)) := by rw [← hw2, ← hz]; exact alloc_new _ _
        have k2 : Keeps (fun _ => False) w w2 := by rw [← hw2]; exact k1.alloc _
        have hzw : w.heap.size ≤ z := by have := k1.size; omega
        have y1 := cell_of (v := .int .i64 oc) z2 1 rfl
        have HW := Hid.of (And.intro z2 (And.intro k2 hzw))
        clear H1 k1 z2 k2 hzw
        go_wp2
        go_quiet (first | (go_at_call 48; exact Calls.quiet_of_same (HQ.out.1 _)) | (go_at_call 46; exact Calls.quiet_of_same (HQ.out.2 _)))
        clear lk c4 y1
        obtain ⟨w3, hw3⟩ : ∃ w3, w2.drewN nq = w3 := ⟨_, rfl⟩
        have k3 : Keeps (fun _ => False) w2 w3 := by rw [← hw3]; exact (Keeps.refl _ _).drewN _
        rw [hw3]
        have z3 := k3.at HW.out.1 (fun x => x)
        have K3 := HW.out.2.1.trans k3
        have qm3 := HQM.out w3 K3
        have d5 : w3.cell? ⟨p.b, 5, none⟩ = some (.int .i64 n) := by rw [← HN.out]; exact cell_of (HH.out.1.old K3).cells 5 rfl
        have HZ := Hid.of (And.intro z3 K3)
        clear k3 z3 K3 hw3 hw2 hz
        go_wp2_with fail
        refine qm3.mono ?_
        rintro e w4 ⟨rfl, g4, r4, G4⟩
        have H4 : Hid (PRG w p g P g4 P1 w4 ∧ (∀ j, j ≠ (P.n : Int) → g4 j = g j) ∧ w4.heap[z]? = some (.cells #[.slice (some ⟨(g k).b, 0, none⟩) L cc, .int .i64 oc] 63 (0, 0))) := Hid.of (by
          obtain ⟨A4, K4, F4⟩ := r4
          refine ⟨PRG.trans (P1 := P) (HZ.out.2.mono (fun _ _ x => x.elim)) (fun i hi => .inl hi) ⟨A4, K4, F4⟩, G4, K4.at HZ.out.1 (fun hx => ?_)⟩
          have := HH.out.1.lt hx
          have := HW.out.2.2
          omega)
        clear r4 G4 qm3 d5 HQM HZ
        by_cases hE : rE = 0
        · subst hE
          obtain ⟨C', c, hP1, hm1, hm2, hcc⟩ := HM.out.1 rfl
          obtain ⟨M, hMM⟩ : ∃ M : Nat, m.toNat = M := ⟨_, rfl⟩
          rw [hMM] at hP1
          have hMr : 1 ≤ M ∧ M ≤ 8192 := by omega
          subst hP1
          obtain ⟨⟨A4, K4, F4⟩, G4, z4⟩ := H4.out
          have hnn := HM.out.2.1
          have hkn := HM.out.2.2
          have en : eget (eset P.E (P.n : Int) (⟨List.replicate M 0, c⟩ : MO)) (P.n : Int) = some ⟨List.replicate M 0, c⟩ := by rw [eget_eset, if_pos rfl]
          have ek : eget (eset P.E (P.n : Int) (⟨List.replicate M 0, c⟩ : MO)) k = some ⟨ob, oc⟩ := by rw [eget_eset, if_neg hkn]; exact HO.out
          have lk4 := (A4.drew).look en
          have rowd : BAt w4.drew (g4 (P.n : Int)).b (List.replicate M 0) (g4 (P.n : Int)).t := A4.rows _ (eget_memE en)
          have rows : BAt w4.drew (g k).b ob (g k).t := by
            have := A4.rows _ (eget_memE ek)
            simp only at this
            rw [G4 k hkn] at this
            exact this
          rw [HN.out] at lk4 rowd
          simp only [List.length_replicate] at lk4
          obtain ⟨c4, hc4⟩ : ∃ c4, M + (g4 n).t.length = c4 := ⟨_, rfl⟩
          rw [hc4] at lk4
          obtain ⟨w5, cp, row5, k5⟩ := copy_bytes w4.drew (g4 n).b 0 M c4 L cc (List.replicate M 0) (ob.take M) (some ⟨(g k).b, 0, none⟩) rowd (by have := rows.rd 0 M; simpa using this) (by simp) (by rw [take_min, hL]) (by simp; omega)
          have row5' : BAt w5 (g4 (P.n : Int)).b (resz ob M) (g4 (P.n : Int)).t := by rw [HN.out]; exact row5
          have hrl : (resz ob M).length = (List.replicate M (0 : UInt8)).length := by
            unfold resz
            rw [bput_length]
            simp; omega
          obtain ⟨A5, K5, F5⟩ := A4.bytes en hrl row5' (by rw [HN.out]; exact k5.of_drew)
          have qd := drop_any w5 p g4 _ k A5
          have y0 := cell_of (v := .slice (some ⟨(g k).b, 0, none⟩) L cc) z4 0 rfl
          have y4 := cell_of (v := .map (some p.ob)) A4.cells 4 rfl
          have hRR := HRR.out
          rw [if_neg (by simp), hMM, ← hcc] at hRR
          have HK := Hid.of (And.intro (And.intro K4 F4) (And.intro K5 F5))
          have HFF : Hid (∀ w6, PR w5 p g4 { P with C := C', E := eset (eset P.E (P.n : Int) ⟨List.replicate M 0, c⟩) (P.n : Int) ⟨resz ob M, c⟩, n := P.n + 1 } (drop { P with C := C', E := eset (eset P.E (P.n : Int) ⟨List.replicate M 0, c⟩) (P.n : Int) ⟨resz ob M, c⟩, n := P.n + 1 } k) w6 → PR w p g P RR.2 w6) := Hid.of (by
            intro w6 r6
            rw [← hRR]
            refine PR.trans (P1 := { P with C := C', E := eset P.E (P.n : Int) ⟨List.replicate M 0, c⟩, n := P.n + 1 }) K4 F4 ?_
            refine PR.trans (P1 := { P with C := C', E := eset (eset P.E (P.n : Int) ⟨List.replicate M 0, c⟩) (P.n : Int) ⟨resz ob M, c⟩, n := P.n + 1 }) K5 (fun i hi => .inl (F5 i hi)) r6)
          have HR1 : Hid (RR.1 = (rh, 0)) := Hid.of (by rw [← hRR])
          clear hRR HRR H4 A4 K4 F4 G4 z4 hnn hkn en ek rowd rows row5 k5 row5' hrl A5 K5 F5 HM hcc hm1 hm2 HH HO HQ HW hMM HCD HK
          generalize ({ C := C', k := P.k, q := P.q, t := P.t, E := eset (eset P.E (P.n : Int) ⟨List.replicate M 0, c⟩) (P.n : Int) ⟨resz ob M, c⟩, n := P.n + 1 } : PP) = P2 at *
          have hfl := fld_bytes
          go_wp2
          go_region
          go_wp2_with fail
          refine qd.mono ?_
          rintro e w6 ⟨rfl, r6⟩
          have HF := Hid.of (HFF.out w6 r6)
          clear qd r6 HFF
          go_wp2
          go_ret2
          refine ⟨?_, HF.out⟩
          rw [HR1.out]
          rfl
        · have t0 : (rE != 0) = true := by simpa using hE
          have hRR := HRR.out
          rw [if_pos hE] at hRR
          have HF : Hid (PR w p g P P1 w4) := Hid.of ⟨_, H4.out.1⟩
          subst hRR
          clear hE H4 HM HH HO HQ HW
          go_wp2
          go_ret2
          exact ⟨rfl, HF.out⟩
  · have hR : realloc P h m = ((0, (Ca.Fnd P.C h 4).2), P) := by unfold realloc; rw [if_pos he]
    rw [hR]
    generalize (Ca.Fnd P.C h 4).2 = E at *
    generalize (Ca.Fnd P.C h 4).1 = k at *
    have t0 : (E != 0) = true := by simpa using he
    have HH := Hid.of H
    clear hR he ok H
    go_enter Tryd.func35, Tryd.ntmps35
    go_wp2_with fail
    refine q.mono ?_
    rintro e w1 ⟨rfl, k1⟩
    have HK := Hid.of (PR.refl HH.out k1)
    clear k1 q
    go_wp2
    go_ret2
    exact ⟨rfl, HK.out⟩
end Mo
end Go.Proofs.YtagmkkddjdlncaaDoor
