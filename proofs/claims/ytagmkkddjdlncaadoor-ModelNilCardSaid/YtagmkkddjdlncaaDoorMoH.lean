/- The model's part in memory: what it is, how steps change it; charged, drop. -/
import Derived.Test.YtagmkkddjdlncaaDoorMoG
set_option linter.unusedVariables false
set_option linter.unusedSimpArgs false
namespace Go.Proofs.YtagmkkddjdlncaaDoor
open Go.RowKit Go.ChangeMaps
namespace Mo
theorem eget_tag (g : Int → Nat) (E : List (Int × MO)) (k : Int) : eget (tag g E) k = (eget E k).map (fun o => (g k, o)) := by
  induction E with
  | nil => rfl
  | cons y E ih =>
    have : tag g (y :: E) = (y.1, (g y.1, y.2)) :: tag g E := rfl
    rw [this, eget_cons, eget_cons, ih]
    by_cases h : y.1 = k
    · simp [h]
    · simp [h]
def gset (g : Int → Nat) (k : Int) (h : Nat) : Int → Nat := fun j => if j = k then h else g j
theorem gset_same (g : Int → Nat) (k : Int) (h : Nat) : gset g k h k = h := by simp [gset]
theorem gset_other (g : Int → Nat) (k : Int) (h : Nat) {j : Int} (hj : j ≠ k) : gset g k h j = g j := by simp [gset, hj]
theorem tag_eset (g : Int → Nat) (E : List (Int × MO)) (k : Int) (h : Nat) (o : MO) : eset (tag g E) k (h, o) = tag (gset g k h) (eset E k o) := by
  have hs : ((tag g E).find? (fun p => p.1 == k)).isSome = (E.find? (fun p => p.1 == k)).isSome := by
    rw [← eget_isSome, ← eget_isSome, eget_tag]; simp
  unfold eset
  rw [hs]
  cases hc : (E.find? (fun p => p.1 == k)).isSome
  · simp only [Bool.false_eq_true, if_false]
    have hno : ∀ x ∈ E, x.1 ≠ k := by
      intro x hx e
      have : (E.find? (fun p => p.1 == k)).isSome = true := by rw [List.find?_isSome]; exact ⟨x, hx, by simp [e]⟩
      rw [hc] at this; cases this
    unfold tag
    rw [List.map_append]
    congr 1
    · exact List.map_congr_left fun x hx => by rw [gset_other g k h (hno x hx)]
    · simp [gset_same]
  · simp only [if_true]
    unfold tag
    rw [List.map_map, List.map_map]
    refine List.map_congr_left fun x hx => ?_
    simp only [Function.comp_apply]
    by_cases e : x.1 = k
    · simp [e, gset_same]
    · simp [e, gset_other g k h e]
theorem tag_edel (g : Int → Nat) (E : List (Int × MO)) (k : Int) : edel (tag g E) k = tag g (edel E k) := by
  unfold edel tag
  rw [List.filter_map]; rfl
/-- Where a part lies. -/
structure Plc where
  b : Nat
  ob : Nat
  c : Ca.Pl
def Fp (p : Plc) (g : Int → Nat) (E : List (Int × MO)) (i : Nat) : Prop := i = p.b ∨ i = p.ob ∨ Ca.Fp p.c i ∨ ∃ x ∈ E, i = g x.1
structure PAt (w : World) (p : Plc) (g : Int → Nat) (P : PP) : Prop where
  cells : w.heap[p.b]? = some (.cells (pcells p.c.c P.k P.q P.t p.ob P.n) 58 (0, 0))
  caps : Ca.At w p.c P.C
  map : EMap oenc w p.ob (tag g P.E)
  rows : ∀ x ∈ P.E, BAt w (g x.1) x.2.bs
  inj : ∀ x ∈ P.E, ∀ y ∈ P.E, g x.1 = g y.1 → x.1 = y.1
  bo : p.b ≠ p.ob
  bc : ¬ Ca.Fp p.c p.b
  oc : ¬ Ca.Fp p.c p.ob
  rb : ∀ x ∈ P.E, g x.1 ≠ p.b ∧ g x.1 ≠ p.ob ∧ ¬ Ca.Fp p.c (g x.1)
  off : ¬ Fp p g P.E 0
/-- What a step of a part leaves. -/
def PRG (w : World) (p : Plc) (g : Int → Nat) (P : PP) (g' : Int → Nat) (P' : PP) (w' : World) : Prop := PAt w' p g' P' ∧ Keeps (Fp p g P.E) w w' ∧ ∀ i, Fp p g' P'.E i → Fp p g P.E i ∨ w.heap.size ≤ i
def PR (w : World) (p : Plc) (g : Int → Nat) (P P' : PP) (w' : World) : Prop := ∃ g', PRG w p g P g' P' w'
theorem PAt.keep {F : Nat → Prop} {w w' : World} {p : Plc} {g : Int → Nat} {P : PP} (h : PAt w p g P) (hk : Keeps F w w') (hf : ∀ x, Fp p g P.E x → ¬ F x) : PAt w' p g P :=
  { h with
    cells := hk.at h.cells (hf _ (.inl rfl))
    caps := h.caps.keep hk (fun x hx => hf x (.inr (.inr (.inl hx))))
    map := h.map.keep hk (hf _ (.inr (.inl rfl)))
    rows := fun x hx => (h.rows x hx).keep hk (hf _ (.inr (.inr (.inr ⟨x, hx, rfl⟩)))) }
theorem PAt.old {w w' : World} {p : Plc} {g : Int → Nat} {P : PP} (h : PAt w p g P) (hk : Keeps (fun _ => False) w w') : PAt w' p g P := h.keep hk (fun _ _ x => x)
theorem PAt.lt {w : World} {p : Plc} {g : Int → Nat} {P : PP} (h : PAt w p g P) {i : Nat} (hi : Fp p g P.E i) : i < w.heap.size := by
  rcases hi with rfl | rfl | hi | ⟨x, hx, rfl⟩
  · exact lt_of h.cells
  · exact h.map.lt
  · exact h.caps.lt hi
  · exact (h.rows x hx).lt
theorem PR.refl {w w' : World} {p : Plc} {g : Int → Nat} {P : PP} (h : PAt w p g P) (hk : Keeps (fun _ => False) w w') : PR w p g P P w' :=
  ⟨g, h.old hk, hk.mono (fun _ _ x => x.elim), fun i hi => .inl hi⟩
theorem PRG.trans {w w1 w2 : World} {p : Plc} {g g1 g2 : Int → Nat} {P P1 P2 : PP} (k : Keeps (Fp p g P.E) w w1) (hf : ∀ i, Fp p g1 P1.E i → Fp p g P.E i ∨ w.heap.size ≤ i) (h2 : PRG w1 p g1 P1 g2 P2 w2) : PRG w p g P g2 P2 w2 := by
  obtain ⟨a2, k2, f2⟩ := h2
  refine ⟨a2, k.trans' k2 (fun x hx hlt => ?_), fun i hi => ?_⟩
  · rcases hf x hx with h | h
    · exact h
    · omega
  · rcases f2 i hi with h | h
    · exact hf i h
    · exact .inr (Nat.le_trans k.size h)
theorem PR.trans {w w1 w2 : World} {p : Plc} {g g1 : Int → Nat} {P P1 P2 : PP} (k : Keeps (Fp p g P.E) w w1) (hf : ∀ i, Fp p g1 P1.E i → Fp p g P.E i ∨ w.heap.size ≤ i) (h2 : PR w1 p g1 P1 P2 w2) : PR w p g P P2 w2 := by
  obtain ⟨g2, h2⟩ := h2
  exact ⟨g2, PRG.trans k hf h2⟩
theorem PAt.caps' {w w' : World} {p : Plc} {g : Int → Nat} {P : PP} (h : PAt w p g P) {C' : Ca.Cp} (a : Ca.At w' p.c C') (k : Keeps (Ca.Fp p.c) w w') : PAt w' p g { P with C := C' } :=
  { h with
    cells := k.at h.cells h.bc
    caps := a
    map := h.map.keep k h.oc
    rows := fun x hx => (h.rows x hx).keep k (h.rb x hx).2.2 }
theorem PR.caps {w w' : World} {p : Plc} {g : Int → Nat} {P : PP} (h : PAt w p g P) {C' : Ca.Cp} (a : Ca.At w' p.c C') (k : Keeps (Ca.Fp p.c) w w') : PR w p g P { P with C := C' } w' :=
  ⟨g, h.caps' a k, k.mono (fun x _ hx => .inr (.inr (.inl hx))), fun i hi => .inl hi⟩
theorem PAt.del {w w' : World} {p : Plc} {g : Int → Nat} {P : PP} (h : PAt w p g P) {k : Int} (m : EMap oenc w' p.ob (edel (tag g P.E) k)) (kp : Keeps (fun x => x = p.ob) w w') : PR w p g P { P with E := edel P.E k } w' := by
  have sub : ∀ i, Fp p g (edel P.E k) i → Fp p g P.E i := by
    rintro i (hi | hi | hi | ⟨x, hx, hi⟩)
    · exact .inl hi
    · exact .inr (.inl hi)
    · exact .inr (.inr (.inl hi))
    · exact .inr (.inr (.inr ⟨x, (mem_edel.1 hx).1, hi⟩))
  refine ⟨g, { h with
    cells := kp.at h.cells h.bo
    caps := h.caps.keep kp (fun x hx e => h.oc (e ▸ hx))
    map := by rw [← tag_edel]; exact m
    rows := fun x hx => (h.rows x (mem_edel.1 hx).1).keep kp (h.rb x (mem_edel.1 hx).1).2.1
    inj := fun x hx y hy => h.inj x (mem_edel.1 hx).1 y (mem_edel.1 hy).1
    rb := fun x hx => h.rb x (mem_edel.1 hx).1
    off := fun e => h.off (sub _ e) }, kp.mono (fun x _ hx => .inr (.inl hx)), fun i hi => .inl (sub i hi)⟩
/-- A new row of bytes, for a key that is new, or not. -/
theorem PAt.put {w w1 w' : World} {p : Plc} {g : Int → Nat} {P : PP} (h : PAt w p g P) {k : Int} {o : MO} {r : Nat} (hr : w.heap.size ≤ r) (k1 : Keeps (fun _ => False) w w1) (row : BAt w1 r o.bs) (m : EMap oenc w' p.ob (eset (tag g P.E) k (r, o))) (kp : Keeps (fun x => x = p.ob) w1 w') (hT : Sh.Tab w) :
    PRG w p g P (gset g k r) { P with E := eset P.E k o } w' := by
  have h1 := h.old k1
  have lt := fun {i} (hi : Fp p g P.E i) => h.lt hi
  have hob : p.ob < w.heap.size := h.map.lt
  have ne : ∀ x ∈ P.E, g x.1 < w.heap.size := fun x hx => (h.rows x hx).lt
  have grow : ∀ x ∈ eset P.E k o, (x = (k, o) ∧ gset g k r x.1 = r) ∨ (x ∈ P.E ∧ x.1 ≠ k ∧ gset g k r x.1 = g x.1) := by
    intro x hx
    rcases mem_eset hx with rfl | ⟨hx, hk⟩
    · exact .inl ⟨rfl, gset_same _ _ _⟩
    · exact .inr ⟨hx, hk, gset_other _ _ _ hk⟩
  have sub : ∀ i, Fp p (gset g k r) (eset P.E k o) i → Fp p g P.E i ∨ w.heap.size ≤ i := by
    rintro i (hi | hi | hi | ⟨x, hx, hi⟩)
    · exact .inl (.inl hi)
    · exact .inl (.inr (.inl hi))
    · exact .inl (.inr (.inr (.inl hi)))
    · rcases grow x hx with ⟨_, e⟩ | ⟨hx', _, e⟩
      · right; rw [hi, e]; exact hr
      · left; exact .inr (.inr (.inr ⟨x, hx', by rw [hi, e]⟩))
  refine ⟨{ h with
    cells := kp.at h1.cells h.bo
    caps := h1.caps.keep kp (fun x hx e => h.oc (e ▸ hx))
    map := by rw [← tag_eset]; exact m
    rows := ?_
    inj := ?_
    rb := ?_
    off := ?_ }, ?_, sub⟩
  · intro x hx
    rcases grow x hx with ⟨rfl, e⟩ | ⟨hx', _, e⟩
    · rw [e]; exact row.keep kp (by omega)
    · rw [e]; exact (h1.rows x hx').keep kp (h.rb x hx').2.1
  · intro x hx y hy hxy
    rcases grow x hx with ⟨rfl, e⟩ | ⟨hx', hkx, e⟩
    · rcases grow y hy with ⟨rfl, e'⟩ | ⟨hy', _, e'⟩
      · rfl
      · rw [e, e'] at hxy; have := ne y hy'; omega
    · rcases grow y hy with ⟨rfl, e'⟩ | ⟨hy', _, e'⟩
      · rw [e, e'] at hxy; have := ne x hx'; omega
      · rw [e, e'] at hxy; exact h.inj x hx' y hy' hxy
  · intro x hx
    rcases grow x hx with ⟨rfl, e⟩ | ⟨hx', _, e⟩
    · rw [e]
      refine ⟨?_, by omega, ?_⟩
      · have := lt_of h.cells; omega
      · intro q; have := h.caps.lt q; omega
    · rw [e]; exact h.rb x hx'
  · intro q
    rcases sub _ q with q | q
    · exact h.off q
    · have := hT.lt; omega
  · exact (k1.mono (fun _ _ x => x.elim)).trans (kp.mono (fun x _ hx => .inr (.inl hx)))
/-- Bytes of an object are written. -/
theorem PAt.bytes {w w' : World} {p : Plc} {g : Int → Nat} {P : PP} (h : PAt w p g P) {k : Int} {o : MO} {l : Bs} (ho : eget P.E k = some o) (hl : l.length = o.bs.length) (row : BAt w' (g k) l) (kp : Keeps (fun x => x = g k) w w') :
    PAt w' p g { P with E := eset P.E k ⟨l, o.cost⟩ } ∧ Keeps (Fp p g P.E) w w' ∧ ∀ i, Fp p g (eset P.E k ⟨l, o.cost⟩) i → Fp p g P.E i := by
  have hm := eget_memE ho
  have hrb := h.rb _ hm
  have hs : (P.E.find? (fun p => p.1 == k)).isSome = true := by rw [← eget_isSome, ho]; rfl
  have hgg : gset g k (g k) = g := by funext j; unfold gset; split <;> simp_all
  have back : ∀ x ∈ eset P.E k ⟨l, o.cost⟩, ∃ y ∈ P.E, y.1 = x.1 := by
    intro x hx
    rcases mem_eset hx with rfl | ⟨hx, _⟩
    · exact ⟨_, hm, rfl⟩
    · exact ⟨x, hx, rfl⟩
  have sub : ∀ i, Fp p g (eset P.E k ⟨l, o.cost⟩) i → Fp p g P.E i := by
    rintro i (hi | hi | hi | ⟨x, hx, hi⟩)
    · exact .inl hi
    · exact .inr (.inl hi)
    · exact .inr (.inr (.inl hi))
    · obtain ⟨y, hy, e⟩ := back x hx
      exact .inr (.inr (.inr ⟨y, hy, by rw [hi, e]⟩))
  refine ⟨{ h with
    cells := kp.at h.cells (fun e => hrb.1 e.symm)
    caps := h.caps.keep kp (fun x hx e => hrb.2.2 (e ▸ hx))
    map := ?_
    rows := ?_
    inj := ?_
    rb := ?_
    off := fun e => h.off (sub _ e) }, kp.mono (fun x _ hx => .inr (.inr (.inr ⟨_, hm, hx⟩))), sub⟩
  · have hkeep : EMap oenc w' p.ob (tag g P.E) := h.map.keep kp (fun e => hrb.2.1 e.symm)
    have hval : aset (encs oenc (tag g P.E)) k (oenc (g k, ⟨l, o.cost⟩)) = encs oenc (tag g P.E) := by
      refine aset_same hkeep ?_
      rw [aget_encs, eget_tag, ho]
      simp [oenc, hl]
    have h7 : tag g (eset P.E k ⟨l, o.cost⟩) = eset (tag g P.E) k (g k, ⟨l, o.cost⟩) := by
      rw [tag_eset, hgg]
    rw [h7]
    show IMap w' p.ob (encs oenc (eset (tag g P.E) k (g k, ⟨l, o.cost⟩)))
    rw [← aset_encs, hval]
    exact hkeep
  · intro x hx
    rcases mem_eset hx with rfl | ⟨hx, hk⟩
    · exact row
    · exact (h.rows x hx).keep kp (fun e => hk (h.inj x hx _ hm e))
  · intro x hx y hy e
    obtain ⟨x', hx', ex⟩ := back x hx
    obtain ⟨y', hy', ey⟩ := back y hy
    rw [← ex, ← ey] at e ⊢
    exact h.inj x' hx' y' hy' e
  · intro x hx
    obtain ⟨x', hx', ex⟩ := back x hx
    rw [← ex]; exact h.rb x' hx'
theorem PAt.setn {w : World} {p : Plc} {g : Int → Nat} {P : PP} (h : PAt w p g P) (n : Nat) : PAt (w.setCell ⟨p.b, 5, none⟩ (.int .i64 (n : Int))) p g { P with n := n } := by
  have kp : Keeps (fun x => x = p.b) w (w.setCell ⟨p.b, 5, none⟩ (.int .i64 (n : Int))) := (Keeps.refl _ _).setCell _ _ (.inl rfl)
  exact { h with
    cells := set_of h.cells 5 _
    caps := h.caps.keep kp (fun x hx e => h.bc (e ▸ hx))
    map := h.map.keep kp (fun e => h.bo e.symm)
    rows := fun x hx => (h.rows x hx).keep kp (h.rb x hx).1 }
theorem charged_any (w : World) (p : Plc) (g : Int → Nat) (P : PP) (H : PAt w p g P) (hs : sum P.E ≤ 1000000) :
    Calls Tryd.prog 25 #[.pointer (some ⟨p.b, 0, none⟩)] w fun e w' => e = .returned (.int .i64 (sum P.E)) ∧ Keeps (fun _ => False) w w' := by
  have := charged_tag w p.b p.c.c p.ob P.k P.q P.t P.n (tag g P.E) H.cells H.map (by rw [sumT_tag]; exact hs)
  rw [sumT_tag] at this
  exact this
def DropR (w : World) (p : Plc) (g : Int → Nat) (P P' : PP) (e : Ending) (w' : World) : Prop := e = .returned (.tuple #[]) ∧ PR w p g P P' w'
set_option maxRecDepth 100000 in
set_option maxHeartbeats 1000000 in
theorem drop_any (w : World) (p : Plc) (g : Int → Nat) (P : PP) (a : Int) (H : PAt w p g P) :
    Calls Tryd.prog 34 #[.pointer (some ⟨p.b, 0, none⟩), .int .i64 a] w (DropR w p g P (drop P a)) := by
  have q := Ca.revoke_any w p.c P.C a H.caps
  unfold drop
  generalize Ca.revoke P.C a = C' at q ⊢
  have c0 := cell_of (v := .pointer (some ⟨p.c.c, 0, none⟩)) H.cells 0 rfl
  have HH := Hid.of H
  clear H
  go_enter Tryd.func34, Tryd.ntmps34
  go_wp2_with fail
  refine q.mono ?_
  rintro e w1 ⟨n, rfl, a1, k1⟩
  have H1 := HH.out.caps' a1 k1
  have c4 := cell_of (v := .map (some p.ob)) H1.cells 4 rfl
  obtain ⟨w2, dl, M2, k2⟩ := H1.map.del (P := Tryd.prog) (ty := 0) 3 Tryd.underlying56 Tryd.underlying3 a
  have HF : Hid (PR w p g P { P with C := C', E := edel P.E a } w2) := Hid.of (by
    have r1 := PR.caps HH.out a1 k1
    obtain ⟨g', b1, b2, b3⟩ := r1
    exact PR.trans (P1 := { P with C := C' }) (k1.mono (fun x _ hx => .inr (.inr (.inl hx)))) (fun i hi => .inl hi) (H1.del M2 k2))
  clear q a1 k1 H1 M2 k2 c0
  go_wp2
  go_end0
  exact ⟨rfl, HF.out⟩
end Mo
end Go.Proofs.YtagmkkddjdlncaaDoor
