/- The heap's pieces: a page comes, a page goes; a page gives out a block. | The heap package's walk: Malloc. | The heap package's walk: Malloc's other answers. | The heap package's walk: Free. -/
import Derived.Test.YtnheibcjcgacpaaGreatDoorHea
set_option linter.unusedVariables false
set_option linter.unusedSimpArgs false
/-! The heap's pieces: a page comes, a page goes; a page gives out a block. -/
namespace Go.Proofs.YtnheibcjcgacpaaGreatDoor
open Go.RowKit Go.ChangeMaps
namespace Pg
def alK (P : PG) : Nat := match P.R, P.W with
  | k :: _, _ => k
  | [], k :: _ => k
  | [], [] => P.fresh
def alP (P : PG) : PG := match P.R, P.W with
  | k :: L, _ => popP P k L
  | [], k :: L => popP { P with R := P.W, W := [] } k L
  | [], [] => frP P
def alS (P : PG) (S : Ar.AS) : Ar.AS := match P.R, P.W with
  | k :: _, _ => popS P S k
  | [], k :: _ => popS P S k
  | [], [] => S
/-- A page can give out a block. -/
def AlOk (B : Bs) (P : PG) : Prop := match P.R, P.W with
  | k :: _, _ => Links B P.base (Pc.un P.kind) (Pc.per P.kind) P.R ∧ P.S.getD k false = true
  | [], k :: _ => Links B P.base (Pc.un P.kind) (Pc.per P.kind) P.W ∧ P.S.getD k false = true
  | [], [] => P.fresh < Pc.per P.kind ∧ P.S.getD P.fresh false = true
theorem alloc_any (w : World) (q : Pla) (p : Ar.Pl) (v : Value) (P : PG) (S : Ar.AS) (h : J w q p v P S) (o : AlOk S.B P) (ht : S.T.length + 1 ≤ 1000000000) :
    Calls Tryz.prog 85 #[.pointer (some ⟨q.b, 0, none⟩)] w (AllocR w q p v (alP P) (alS P S) (alK P) 0) := by
  unfold AlOk at o
  unfold alP alS alK
  cases hR : P.R with
  | cons k L =>
    rw [hR] at o
    exact alloc_ready w q p v P S k L h hR (by rw [hR]; exact o.1) o.2 ht
  | nil =>
    cases hW : P.W with
    | cons k L =>
      rw [hR, hW] at o
      have := alloc_wait w q p v P S k L h hR hW (by rw [hW]; exact o.1) o.2 ht
      rw [hW] at this
      exact this
    | nil =>
      rw [hR, hW] at o
      exact alloc_fresh w q p v P S h hR hW o.1 o.2
theorem alK_lt {B : Bs} {P : PG} (o : AlOk B P) : alK P < Pc.per P.kind := by
  unfold AlOk at o
  unfold alK
  cases hR : P.R with
  | cons k L => rw [hR] at o; exact o.1.1
  | nil =>
    cases hW : P.W with
    | cons k L => rw [hR, hW] at o; exact o.1.1
    | nil => rw [hR, hW] at o; exact o.1
theorem alP_kind (P : PG) : (alP P).kind = P.kind ∧ (alP P).base = P.base := by
  unfold alP
  cases P.R with
  | cons k L => exact ⟨rfl, rfl⟩
  | nil => cases P.W with
    | cons k L => exact ⟨rfl, rfl⟩
    | nil => exact ⟨rfl, rfl⟩
end Pg
namespace He
def updg (g : Int → Pg.Pla) (v : Int) (q : Pg.Pla) : Int → Pg.Pla := fun i => if i = v then q else g i
theorem updg_same (g : Int → Pg.Pla) (v : Int) (q : Pg.Pla) : updg g v q v = q := by simp [updg]
theorem updg_other (g : Int → Pg.Pla) {v i : Int} (q : Pg.Pla) (h : i ≠ v) : updg g v q i = g i := by simp [updg, h]
theorem dm_new (g : Int → Pg.Pla) (D : List (Int × Pg.PG)) (v : Int) (q : Pg.Pla) (P : Pg.PG) (h : eget D v = none) : dm (updg g v q) (eset D v P) = eset (dm g D) v (ptr q.b) := by
  have h1 : (D.find? (fun p => p.1 == v)).isSome = false := by rw [← eget_isSome, h]; rfl
  have h2 : ((dm g D).find? (fun p => p.1 == v)).isSome = false := by rw [← eget_isSome, dm_get, h]; rfl
  have e : dm (updg g v q) D = dm g D := by
    unfold dm
    refine List.map_congr_left (fun x hx => ?_)
    have h3 : D.find? (fun p => p.1 == v) = none := by cases e : D.find? (fun p => p.1 == v) with | none => rfl | some _ => rw [e] at h1; cases h1
    have h4 := List.find?_eq_none.1 h3 x hx
    simp only [beq_iff_eq] at h4
    rw [updg_other g q h4]
  unfold eset
  rw [h1, h2]
  simp only [Bool.false_eq_true, if_false]
  rw [← e]
  unfold dm
  rw [List.map_append]
  simp [updg]
theorem dm_edel (g : Int → Pg.Pla) (D : List (Int × Pg.PG)) (v : Int) : dm g (edel D v) = edel (dm g D) v := by
  unfold dm edel
  rw [List.filter_map]
  rfl
theorem HAt.addPage {w w1 w2 : World} {X : HX} {g : Int → Pg.Pla} {a m : Nat} {H : HS} (h : HAt w X g a m H) {v : Int} {q : Pg.Pla} {P : Pg.PG} (hv : eget H.D v = none) (k1 : Keeps (fun _ => False) w w1) (hp : Pg.At w1 q a P) (hf : ∀ x, Pg.Pf q x → w.heap.size ≤ x) (hs : EMap (fun v : Value => v) w2 X.db (eset (dm g H.D) v (ptr q.b))) (k2 : Keeps (fun x => x = X.db) w1 w2) :
    HAt w2 X (updg g v q) a m { H with D := eset H.D v P } ∧ Keeps (fun x => x = X.db) w w2 ∧ (∀ x, Fp X (updg g v q) (eset H.D v P) x → Fp X g H.D x ∨ w.heap.size ≤ x) := by
  have k : Keeps (fun x => x = X.db) w w2 := (k1.mono (fun _ _ x => x.elim)).trans k2
  have e := h.ex (i := .small) trivial k
  have hdb := h.small.lt
  have ho : ∀ j, j ≠ .page v → okp (eset H.D v P) j → okp H.D j ∧ ∀ x, fp X (updg g v q) j x → fp X g j x := by
    intro j hj ho
    cases j with
    | page u =>
      have hu : u ≠ v := fun e => hj (by rw [e])
      refine ⟨?_, fun x hx => ?_⟩
      · have ho : (eget (eset H.D v P) u).isSome = true := ho
        rw [eget_eset, if_neg hu] at ho
        exact ho
      · have hx : Pg.Pf (updg g v q u) x := hx
        rw [updg_other g q hu] at hx
        exact hx
    | slot c => exact ⟨ho, fun x hx => hx⟩
    | line c => exact ⟨ho, fun x hx => hx⟩
    | box => exact ⟨trivial, fun x hx => hx⟩
    | win => exact ⟨trivial, fun x hx => hx⟩
    | tab => exact ⟨trivial, fun x hx => hx⟩
    | small => exact ⟨trivial, fun x hx => hx⟩
  have hq : ∀ x, fp X (updg g v q) (.page v) x → w.heap.size ≤ x := fun x hx => by
    have hx : Pg.Pf (updg g v q v) x := hx
    rw [updg_same] at hx
    exact hf x hx
  refine ⟨{ cells := e.cells (by simp), win := e.win (by simp), tab := e.tab (by simp), inv := h.inv, slot := fun i hi => e.slot i hi (by simp), slen := h.slen, line := fun i hi => e.line i hi (by simp), small := ?_, page := fun u Q hQ => ?_, apart := fun i j hi hj hne x hx hy => ?_ }, k, fun x ⟨i, hi, hx⟩ => ?_⟩
  · show EMap _ w2 X.db (dm (updg g v q) (eset H.D v P))
    rw [dm_new g H.D v q P hv]; exact hs
  · rw [eget_eset] at hQ
    split at hQ
    · rename_i u1; injection hQ with hQ; subst hQ; rw [u1, updg_same]; exact hp.keep k2 (fun x hx e => by have := hf x hx; omega)
    · rename_i u1; rw [updg_other g q u1]; exact e.page u Q hQ (by simp)
  · by_cases hiv : i = .page v
    · subst hiv
      obtain ⟨o2, f2⟩ := ho j (fun e => hne e.symm) hj
      have := h.lt ⟨j, o2, f2 x hy⟩
      have := hq x hx
      omega
    · obtain ⟨o1, f1⟩ := ho i hiv hi
      by_cases hjv : j = .page v
      · subst hjv
        have := h.lt ⟨i, o1, f1 x hx⟩
        have := hq x hy
        omega
      · obtain ⟨o2, f2⟩ := ho j hjv hj
        exact h.apart i j o1 o2 hne x (f1 x hx) (f2 x hy)
  · by_cases hiv : i = .page v
    · subst hiv; exact .inr (hq x hx)
    · obtain ⟨o1, f1⟩ := ho i hiv hi
      exact .inl ⟨i, o1, f1 x hx⟩
theorem okp_edel {D : List (Int × Pg.PG)} {v : Int} {i : Pid} (h : okp (edel D v) i) : okp D i := by
  cases i with
  | page u =>
    have h : (eget (edel D v) u).isSome = true := h
    rw [eget_edel] at h
    split at h
    · cases h
    · exact h
  | slot c => exact h
  | line c => exact h
  | box => trivial
  | win => trivial
  | tab => trivial
  | small => trivial
theorem HAt.delPage {w w2 : World} {X : HX} {g : Int → Pg.Pla} {a m : Nat} {H : HS} (h : HAt w X g a m H) {v : Int} (hs : EMap (fun v : Value => v) w2 X.db (edel (dm g H.D) v)) (k : Keeps (fun x => x = X.db) w w2) :
    HAt w2 X g a m { H with D := edel H.D v } := by
  have e := h.ex (i := .small) trivial k
  refine { cells := e.cells (by simp), win := e.win (by simp), tab := e.tab (by simp), inv := h.inv, slot := fun i hi => e.slot i hi (by simp), slen := h.slen, line := fun i hi => e.line i hi (by simp), small := ?_, page := fun u Q hQ => ?_, apart := fun i j hi hj hne => h.apart i j (okp_edel hi) (okp_edel hj) hne }
  · show EMap _ w2 X.db (dm g (edel H.D v))
    rw [dm_edel]; exact hs
  · rw [eget_edel] at hQ
    split at hQ
    · cases hQ
    · exact e.page u Q hQ (by simp)
/-- A page's turn that turns the arena too. -/
theorem HAt.setPageF {F : Nat → Prop} {w w' : World} {X : HX} {g : Int → Pg.Pla} {a m : Nat} {H : HS} (h : HAt w X g a m H) {v : Int} {P0 P : Pg.PG} (hv : eget H.D v = some P0) (hp : Pg.At w' (g v) a P) (k : Keeps F w w') (hn : ∀ j, okp H.D j → j ≠ .page v → ∀ x, fp X g j x → ¬ F x) : HAt w' X g a m { H with D := eset H.D v P } := by
  have hs : (eget H.D v).isSome = true := by rw [hv]; rfl
  refine { cells := k.at h.cells (hn .box trivial (by simp) _ rfl), win := h.win.keep k (fun y hy => hn .win trivial (by simp) y hy), tab := h.tab.keep k (hn .tab trivial (by simp) _ (.inl rfl)) (hn .tab trivial (by simp) _ (.inr (.inl rfl))) (hn .tab trivial (by simp) _ (.inr (.inr rfl))), inv := h.inv, slot := fun i hi => (h.slot i hi).keep k (fun y hy => hn (.slot i) hi (by simp) y hy), slen := h.slen, line := fun i hi => (h.line i hi).keep k (hn (.line i) hi (by simp) _ (.inl rfl)) (hn (.line i) hi (by simp) _ (.inr rfl)), small := ?_, page := fun u Q hQ => ?_, apart := fun i j hi hj hne => h.apart i j ((okp_eset hs i).1 hi) ((okp_eset hs j).1 hj) hne }
  · show EMap _ w' X.db (dm g (eset H.D v P))
    rw [dm_eset g H.D v P hs]; exact h.small.keep k (hn .small trivial (by simp) _ rfl)
  · rw [eget_eset] at hQ
    split at hQ
    · rename_i q; injection hQ with hQ; subst hQ; rw [q]; exact hp
    · rename_i q; exact (h.page u Q hQ).keep k (fun y hy => hn (.page u) (by show (eget H.D u).isSome = true; rw [hQ]; rfl) (fun x => q (by injection x with x)) y hy)
theorem HJ.pj {w : World} {X : HX} {g : Int → Pg.Pla} {p : Ar.Pl} {v : Value} {cp : Co.Pla} {H : HS} {S : Ar.AS} {M : Co.CM} (h : HJ w X g p v cp H S M) {k : Int} {P : Pg.PG} (hk : eget H.D k = some P) : Pg.J w (g k) p v P S :=
  ⟨h.h.page k P hk, h.ar, fun x hx => h.ha x ⟨.page k, by show (eget H.D k).isSome = true; rw [hk]; rfl, hx⟩⟩
/-- A turn of a page, of the arena with it. -/
theorem HJ.page {w w' : World} {X : HX} {g : Int → Pg.Pla} {p : Ar.Pl} {v : Value} {cp : Co.Pla} {H : HS} {S S' : Ar.AS} {M : Co.CM} (h : HJ w X g p v cp H S M) {k : Int} {P P' : Pg.PG} (hk : eget H.D k = some P) (r : Pg.R w (g k) p v P' S' w') (hl : S'.B.length = S.B.length) : ∃ v', HG w X g p v cp H.D M.C X g v' { H with D := eset H.D k P' } S' M w' := by
  obtain ⟨v', a, kk, f⟩ := r
  have hs : (eget H.D k).isSome = true := by rw [hk]; rfl
  have hF : ∀ x, Pg.Pf (g k) x → Fp X g H.D x := fun x hx => ⟨.page k, hs, hx⟩
  have hD : ∀ x, Fp X g (eset H.D k P') x → Fp X g H.D x := fun x ⟨i, hi, hx⟩ => ⟨i, (okp_eset hs i).1 hi, hx⟩
  refine ⟨v', ⟨{ h := h.h.setPageF hk a.pg kk (fun j hj hne x hx e => ?_), ar := a.ar, co := h.co.keep kk (fun x hx e => ?_), T := h.T.keep kk (fun e => ?_), ha := fun x hx hy => ?_, hc := fun x hx => h.hc x (hD x hx), ac := fun x hx hy => ?_, off := fun x hx => ?_, bl := by rw [hl]; exact h.bl, pg := h.pg }, rfl, rfl, kk.mono (fun x _ hx => ?_), fun x hx => .inl (hD x hx), f⟩⟩
  · rcases e with e | e
    · exact h.h.apart j (.page k) hj hs hne x hx e
    · exact h.ha x ⟨j, hj, hx⟩ e
  · rcases e with e | e
    · exact h.hc x (hF x e) hx
    · exact h.ac x e hx
  · rcases e with e | e
    · exact h.off _ (.inl (hF _ e)) rfl
    · exact h.off _ (.inr (.inl e)) rfl
  · rcases f x hy with e | e
    · exact h.ha x (hD x hx) e
    · have := h.h.lt (hD x hx); omega
  · rcases f x hx with e | e
    · exact h.ac x e hy
    · have := h.co.lt hy; omega
  · rcases hx with e | e | e
    · exact h.off x (.inl (hD x e))
    · rcases f x e with q | q
      · exact h.off x (.inr (.inl q))
      · have := h.T.lt; omega
    · exact h.off x (.inr (.inr e))
  · rcases hx with e | e
    · exact .inl (hF x e)
    · exact .inr (.inl e)
/-- A page more, in the heap, its arena, its map. -/
theorem HJ.addPage {w w1 w2 : World} {X : HX} {g : Int → Pg.Pla} {p : Ar.Pl} {v : Value} {cp : Co.Pla} {H : HS} {S : Ar.AS} {M : Co.CM} (h : HJ w X g p v cp H S M) {k : Int} {q : Pg.Pla} {P : Pg.PG} (hv : eget H.D k = none) (k1 : Keeps (fun _ => False) w w1) (hp : Pg.At w1 q p.a P) (hf : ∀ x, Pg.Pf q x → w.heap.size ≤ x) (hs : EMap (fun v : Value => v) w2 X.db (eset (dm g H.D) k (ptr q.b))) (k2 : Keeps (fun x => x = X.db) w1 w2) :
    HG w X g p v cp H.D M.C X (updg g k q) v { H with D := eset H.D k P } S M w2 := by
  obtain ⟨a, kk, f⟩ := h.h.addPage hv k1 hp hf hs k2
  have hdb : Fp X g H.D X.db := ⟨.small, trivial, rfl⟩
  refine ⟨{ h := a, ar := h.ar.keep kk (fun x hx e => h.ha x (e ▸ hdb) hx), co := h.co.keep kk (fun x hx e => h.hc x (e ▸ hdb) hx), T := h.T.keep kk (fun e => h.off _ (.inl (e ▸ hdb)) rfl), ha := fun x hx hy => ?_, hc := fun x hx hy => ?_, ac := h.ac, off := fun x hx => ?_, bl := h.bl, pg := h.pg }, rfl, rfl, kk.mono (fun x _ hx => .inl (hx ▸ hdb)), f, fun x hx => .inl hx⟩
  · rcases f x hx with e | e
    · exact h.ha x e hy
    · have := h.ar.lt hy; omega
  · rcases f x hx with e | e
    · exact h.hc x e hy
    · have := h.co.lt hy; omega
  · rcases hx with e | e | e
    · rcases f x e with q | q
      · exact h.off x (.inl q)
      · have := h.T.lt; omega
    · exact h.off x (.inr (.inl e))
    · exact h.off x (.inr (.inr e))
end He
end Go.Proofs.YtnheibcjcgacpaaGreatDoor

/-! The heap package's walk: Malloc. -/
namespace Go.Proofs.YtnheibcjcgacpaaGreatDoor
open Go.RowKit Go.ChangeMaps
namespace Pg
theorem alS_len {B : Bs} {P : PG} {S : Ar.AS} (o : AlOk B P) (hk : P.kind < 8) (hb : P.base + 512 ≤ S.B.length) : (alS P S).B.length = S.B.length := by
  have hlt := alK_lt o
  have h1 := lc_le hk hlt hb
  have h2 := Pc.un_range (c := P.kind) (by omega)
  unfold alK lc at *
  unfold alS
  cases hR : P.R with
  | cons k L => rw [hR] at h1; exact Ar.sto_len (by simp only at h1; omega)
  | nil =>
    cases hW : P.W with
    | cons k L => rw [hR, hW] at h1; exact Ar.sto_len (by simp only at h1; omega)
    | nil => rfl
end Pg
namespace He
/-- The first of a kind's line, its page. -/
structure Fr (t : T3) (c : Nat) (Y s : Nat) (r : List Int) (P : Pg.PG) : Prop where
  l : t.H.L c = (Y : Int) :: r
  v : Y = Pc.loc c s
  s : s < Pc.slots c
  p : eget t.H.D (Y : Int) = some P
  k : P.kind = c
  o : Pg.AlOk t.S.B P
  b : P.base + 512 ≤ t.S.B.length
  T : t.S.T.length + 1 ≤ 1000000000
def mal0 (t : T3) (c : Nat) (v : Int) (P : Pg.PG) : T3 := ⟨{ t.H with D := eset t.H.D v (Pg.alP P) }, Pg.alS P t.S, t.M⟩
def mal1 (t : T3) (c : Nat) (v : Int) (P : Pg.PG) : T3 := if Pg.full (Pg.alP P) then { mal0 t c v P with H := { (mal0 t c v P).H with L := upl t.H.L c (Line.removeL (t.H.L c) v) } } else mal0 t c v P
def MalR (w : World) (X : HX) (g : Int → Pg.Pla) (p : Ar.Pl) (v : Value) (cp : Co.Pla) (t t' : T3) (a E : Int) (e : Ending) (w' : World) : Prop := e = .returned (.tuple #[.int .i64 a, .int .i64 E]) ∧ ∃ g' v', HG w X g p v cp t.H.D t.M.C X g' v' t'.H t'.S t'.M w'
theorem holdT_same (t : T3) (c : Nat) : (holdT t c).H.D = t.H.D ∧ (holdT t c).H.L = t.H.L ∧ (holdT t c).H.W = t.H.W ∧ (holdT t c).S = t.S := by
  unfold holdT
  split
  · have := takeN_same (slotT t c (Sh.low (t.H.F c)).toNat) (Pc.loc c (Sh.low (t.H.F c)).toNat) (Pc.pgs c)
    exact ⟨this.1, this.2.2.1, this.2.2.2.1, this.2.2.2.2⟩
  · exact ⟨rfl, rfl, rfl, rfl⟩
/-- A new page for a kind. -/
def new0 (t : T3) (c Y x : Nat) : T3 := { t with H := { t.H with D := eset t.H.D (Y : Int) (Pg.newP (x * 512) c) } }
def new1 (t : T3) (c Y x : Nat) : T3 := { new0 t c Y x with H := { (new0 t c Y x).H with L := upl t.H.L c [(Y : Int)] } }
structure Nw (t t2 : T3) (c Y s x : Nat) : Prop where
  l : t.H.L c = []
  ok : holdOk t c = true
  s : holdS t c = (s : Int)
  n : eget t.H.D (Y : Int) = none
  fx : Tab.fnd (holdT t c).H.E (Y : Int) = (x : Int)
  W : t.H.W.length ≤ 1000000
  t2 : t2 = new1 (holdT t c) c Y x
theorem sub_arith {c s : Nat} (h8 : c < 8) (hs : s < Pc.slots c) : wrap64 ((Pc.loc c s : Nat) - (Pc.loc c 0 : Nat) : Int) = (s : Int) ∧ IntKind.i64.wrap ((Pc.loc c s : Nat) - (Pc.loc c 0 : Nat) : Int) = (s : Int) := by
  have hp : Pc.pgs c = 1 := by unfold Pc.pgs; rw [if_pos h8]
  have hr := (Pc.slots_range (c := c) (by omega)).2
  have e : ((Pc.loc c s : Nat) - (Pc.loc c 0 : Nat) : Int) = (s : Int) := by unfold Pc.loc; rw [hp]; omega
  rw [e]
  exact ⟨Pc.w64' rfl (by omega), IntWalk.i64_in _ (by omega)⟩
theorem mul_arith {x : Nat} (h : x ≤ 4096) : wrap64 ((x : Int) * 512) = ((x * 512 : Nat) : Int) ∧ IntKind.i64.wrap ((x : Int) * 512) = ((x * 512 : Nat) : Int) := by
  rw [show (x : Int) * 512 = ((x * 512 : Nat) : Int) by omega]
  exact ⟨Pc.w64' rfl (by omega), IntWalk.i64_in _ (by omega)⟩
set_option maxRecDepth 100000 in
def maFrame (x0 x6 x9 : Value) (u : Nat → Value) : Act := { tmps := #[x0, u 1, u 2, u 3, u 4, u 5, x6, u 7, u 8, x9, u 10, u 11, u 12, u 13, u 14, u 15, u 16, u 17, u 18, u 19, u 20, u 21, u 22, u 23, u 24, u 25, u 26, u 27, u 28, u 29, u 30, u 31, u 32, u 33, u 34, u 35, u 36, u 37, u 38, u 39, u 40, u 41, u 42, u 43, u 44, u 45, u 46, u 47, u 48, u 49, u 50, u 51, u 52, u 53, u 54, u 55, u 56, u 57, u 58, u 59, u 60, u 61, u 62, u 63, u 64, u 65, u 66, u 67, u 68, u 69, u 70, u 71, u 72, u 73, u 74, u 75, u 76, u 77, u 78, u 79, u 80, u 81, u 82, u 83, u 84, u 85, u 86, u 87, u 88, u 89, u 90, u 91, u 92, u 93, u 94, u 95, u 96, u 97, u 98, u 99, u 100, u 101, u 102, u 103, u 104, u 105, u 106, u 107, u 108, u 109, u 110, u 111, u 112], defers := [] }
set_option maxRecDepth 100000 in
theorem maFrame_is (v0 v1 v2 v3 v4 v5 v6 v7 v8 v9 v10 v11 v12 v13 v14 v15 v16 v17 v18 v19 v20 v21 v22 v23 v24 v25 v26 v27 v28 v29 v30 v31 v32 v33 v34 v35 v36 v37 v38 v39 v40 v41 v42 v43 v44 v45 v46 v47 v48 v49 v50 v51 v52 v53 v54 v55 v56 v57 v58 v59 v60 v61 v62 v63 v64 v65 v66 v67 v68 v69 v70 v71 v72 v73 v74 v75 v76 v77 v78 v79 v80 v81 v82 v83 v84 v85 v86 v87 v88 v89 v90 v91 v92 v93 v94 v95 v96 v97 v98 v99 v100 v101 v102 v103 v104 v105 v106 v107 v108 v109 v110 v111 v112 : Value) : ({ tmps := #[v0, v1, v2, v3, v4, v5, v6, v7, v8, v9, v10, v11, v12, v13, v14, v15, v16, v17, v18, v19, v20, v21, v22, v23, v24, v25, v26, v27, v28, v29, v30, v31, v32, v33, v34, v35, v36, v37, v38, v39, v40, v41, v42, v43, v44, v45, v46, v47, v48, v49, v50, v51, v52, v53, v54, v55, v56, v57, v58, v59, v60, v61, v62, v63, v64, v65, v66, v67, v68, v69, v70, v71, v72, v73, v74, v75, v76, v77, v78, v79, v80, v81, v82, v83, v84, v85, v86, v87, v88, v89, v90, v91, v92, v93, v94, v95, v96, v97, v98, v99, v100, v101, v102, v103, v104, v105, v106, v107, v108, v109, v110, v111, v112], defers := [] } : Act) = maFrame v0 v6 v9 (fun i => #[v0, v1, v2, v3, v4, v5, v6, v7, v8, v9, v10, v11, v12, v13, v14, v15, v16, v17, v18, v19, v20, v21, v22, v23, v24, v25, v26, v27, v28, v29, v30, v31, v32, v33, v34, v35, v36, v37, v38, v39, v40, v41, v42, v43, v44, v45, v46, v47, v48, v49, v50, v51, v52, v53, v54, v55, v56, v57, v58, v59, v60, v61, v62, v63, v64, v65, v66, v67, v68, v69, v70, v71, v72, v73, v74, v75, v76, v77, v78, v79, v80, v81, v82, v83, v84, v85, v86, v87, v88, v89, v90, v91, v92, v93, v94, v95, v96, v97, v98, v99, v100, v101, v102, v103, v104, v105, v106, v107, v108, v109, v110, v111, v112].getD i undef) := rfl

set_option maxRecDepth 100000 in
set_option maxHeartbeats 2000000 in
theorem malloc_any (w : World) (X : HX) (g : Int → Pg.Pla) (p : Ar.Pl) (v : Value) (cp : Co.Pla) (t t2 : T3) (n : Int) (c Y s x : Nat) (r : List Int) (P : Pg.PG) (hn : Cl.kind n = (c : Int)) (h8 : c < 8) (j : HJ w X g p v cp t.H t.S t.M) (fr : Fr t2 c Y s r P) (hm : t2 = t ∨ Nw t t2 c Y s x) :
    Calls Tryz.prog 20 #[.pointer (some ⟨X.hb, 0, none⟩), .int .i64 n] w (MalR w X g p v cp t (mal1 t2 c (Y : Int) P) (Pc.addr c s (Pg.alK P)) 0) := by
  have q0 := Cl.of_any w n
  rw [hn] at q0
  have c4 := j.h.lineCell h8
  have HJ0 := Hid.of (And.intro j (And.intro fr (And.intro hm h8)))
  have hci : (c : Int) < 24 := by omega
  have hc8 : (c : Int) < 8 := by omega
  have hc0 : (0 : Int) ≤ (c : Int) := by omega
  have t8 : decide ((8 : Int) ≤ (c : Int)) = false := by simp; omega
  have t8' : decide (8 ≤ c) = false := by simp; omega
  have t0 : decide ((c : Int) < 0) = false := by simp
  clear j fr hm hn
  go_enter Tryz.func20, Tryz.ntmps20
  go_wp2
  refine wp_scope_once 0 (fun m a' w' => ∃ (u : Nat → Value), a' = maFrame (.pointer (some ⟨X.hb, 0, none⟩)) (.int .i64 c) (.pointer (some ⟨X.lb c, 0, none⟩)) u ∧ ((m = 1 ∧ w' = w ∧ Nw t t2 c Y s x) ∨ (m = 0 ∧ ∃ g' v', HG w X g p v cp t.H.D t.M.C X g' v' t2.H t2.S t2.M w'))) rfl ?_ ?_
  · rintro m a' w' ⟨u, hf, hw⟩
    unfold maFrame at hf
    subst hf
    rcases hw with ⟨rfl, rfl, hnw⟩ | ⟨rfl, g', v', hG⟩
    · have hF := HJ0.out.2.1
      have d4 := HJ0.out.1.h.lineCell h8
      have qf := Line.rep_front w' (X.lb c) (X.lm c) (t.H.L c) (HJ0.out.1.h.line c h8)
      rw [hnw.l] at qf
      have eh : Line.hd ([] : List Int) = -1 := rfl
      rw [eh] at qf
      have qh := hold_any w' X g p v cp t c (by omega) HJ0.out.1 hnw.W
      unfold HoldR at qh
      rw [hnw.ok, hnw.s] at qh
      have ql := fun wx => Pc.local_any wx c s (by omega) hF.s
      rw [← hF.v] at ql
      have HS := Hid.of (holdT_same t c)
      have HN := Hid.of hnw
      have HF0 := Hid.of hF
      obtain ⟨t1, ht1⟩ : ∃ t1, holdT t c = t1 := ⟨_, rfl⟩
      rw [ht1] at qh HS
      have HT := Hid.of ht1
      clear hF hnw eh ht1 c4 q0
      go_wp2_with fail
      refine qf.mono ?_
      rintro e w1 ⟨rfl, rfl⟩
      clear qf
      go_wp2_with fail
      refine qh.mono ?_
      rintro e w2 ⟨rfl, g2⟩
      have G2 := Hid.of g2
      obtain ⟨d0, -, -, d3, d36⟩ := g2.j.h.four
      have hx : Tab.fnd t1.H.E (Y : Int) = (x : Int) := by rw [← HT.out]; exact HN.out.fx
      have hxP : x < t1.M.P := by have := g2.j.pg (Y : Int); omega
      have hx4 : x ≤ 4096 := by have := g2.j.co.p.2; omega
      obtain ⟨wm1, wm2⟩ := mul_arith hx4
      have qfd := Tab.find_any w2.drew X.tb X.tm X.tn t1.H.E t1.H.G (Y : Int) (g2.j.h.tab.old ((Keeps.refl _ _).drew))
      rw [hx] at qfd
      have qn := Pg.new_any w2.drew p v t1.S (x * 512) c (g2.j.ar.old ((Keeps.refl _ _).drew)) h8 (by omega) (page_fit hxP g2.j.bl)
      unfold Pg.NewR at qn
      have hsm := fun (wx : World) (k : Keeps (fun _ => False) w2 wx) (z : Value) => ((g2.j.h.small.keep k (fun x => x)).upd (P := Tryz.prog) (t := 153) _ Tryz.underlying153 Tryz.underlying3 (Y : Int) z)
      have HX2 := Hid.of (And.intro hx hxP)
      have HB := Hid.of (show ¬ X.hb = X.db from fun e => g2.j.h.apart .box .small trivial trivial (by simp) X.hb rfl e)
      obtain ⟨Z, hZ⟩ : ∃ Z, x * 512 = Z := ⟨_, rfl⟩
      rw [hZ] at wm1 wm2 qn
      have HZ := Hid.of (And.intro hZ hsm)
      clear qh g2 d4 hx hxP hx4 hZ hsm
      go_wp2_with fail
      refine (ql _).mono ?_
      rintro e w3 ⟨rfl, rfl⟩
      clear ql
      go_wp2_with fail
      go_region_held3 (fun wx => wx.cell? ⟨X.hb, 0, none⟩ = some (.pointer (some ⟨p.a, 0, none⟩)) ∧ wx.cell? ⟨X.hb, 3, none⟩ = some (.pointer (some ⟨X.tb, 0, none⟩)) ∧ wx.cell? ⟨X.hb, 36, none⟩ = some (.map (some X.db)))
        (first | exact ⟨d0, d3, d36⟩ | exact ⟨f0, f3, f36⟩ | exact ⟨h0, h3, h36⟩)
        (first
          | (go_at_call 28; refine qfd.mono ?_; clear qfd; rintro e w4 ⟨rfl, rfl⟩)
          | (go_at_call 89; refine qn.mono ?_; clear qn; rintro e w5 ⟨q, rfl, a5, f5, k5⟩; have f0 := keep_cell k5.of_drew (fun x => x) d0; have f3 := keep_cell k5.of_drew (fun x => x) d3; have f36 := keep_cell k5.of_drew (fun x => x) d36; obtain ⟨w6, hu, e6, k6⟩ := HZ.out.2 w5 k5.of_drew (.pointer (some ⟨q.b, 0, none⟩)); have h0 := keep_cell k6 HB.out f0; have h3 := keep_cell k6 HB.out f3; have h36 := keep_cell k6 HB.out f36))
      have G6 := Hid.of (show HG w' X g p v cp t.H.D t.M.C X (updg g (Y : Int) q) v (new0 t1 c Y x).H (new0 t1 c Y x).S (new0 t1 c Y x).M w6 from by
        have hn : eget t1.H.D (Y : Int) = none := by rw [HS.out.1]; exact HN.out.n
        have g6 := G2.out.j.addPage hn k5.of_drew a5 f5 e6 k6
        rw [← HZ.out.1, G2.out.c] at g6
        exact G2.out.trans g6)
      have hL : t1.H.L c = [] := by rw [HS.out.2.1]; exact HN.out.l
      have qp := Line.rep_push w6 (X.lb c) (X.lm c) (t1.H.L c) (Y : Int) (G6.out.j.h.line c h8)
      have e1 : Line.pushE (t1.H.L c) (Y : Int) = 0 := by rw [hL]; unfold Line.pushE; rw [if_neg (by omega), if_neg (by simp)]
      have e2 : Line.pushL (t1.H.L c) (Y : Int) = [(Y : Int)] := by rw [hL]; unfold Line.pushL; rw [if_neg (by omega), if_neg (by simp)]; rfl
      rw [e1, e2] at qp
      clear a5 f5 k5 e6 k6 hu f0 f3 f36 h0 h3 h36 d0 d3 d36 hL e1 e2
      go_wp2_with fail
      refine qp.mono ?_
      rintro e w7 ⟨rfl, l7, k7⟩
      have HF := Hid.of (show HG w' X g p v cp t.H.D t.M.C X (updg g (Y : Int) q) v t2.H t2.S t2.M w7 from by
        rw [HN.out.t2, HT.out]
        have g7 := G6.out.j.own (G6.out.j.h.setLine h8 l7 k7) (k7.mono (fun x _ hx => ⟨.line c, h8, hx⟩)) (fun i hi => hi) G6.out.j.pg
        rw [G6.out.c] at g7
        exact G6.out.trans g7)
      clear qp l7 k7
      go_wp2
      go_step3
      exact ⟨rfl, 0, by omega, _, maFrame_is .., .inr ⟨rfl, _, _, HF.out⟩⟩
    · have hF := HJ0.out.2.1
      have hP8 : P.kind < 8 := by rw [hF.k]; exact h8
      have d4 := hG.j.h.lineCell h8
      obtain ⟨-, -, -, -, d36⟩ := hG.j.h.four
      have qf := Line.rep_front w' (X.lb c) (X.lm c) (t2.H.L c) (hG.j.h.line c h8)
      rw [hF.l] at qf
      have eh : Line.hd ((Y : Int) :: r) = (Y : Int) := rfl
      rw [eh] at qf
      have lk := hG.j.h.look (Y : Int)
      have ep : pgv g' t2.H.D (Y : Int) = .pointer (some ⟨(g' (Y : Int)).b, 0, none⟩) := by unfold pgv; rw [hF.p]; rfl
      rw [ep] at lk
      have qa := Pg.alloc_any w' (g' (Y : Int)) p v' P t2.S (hG.j.pj hF.p) hF.o hF.T
      unfold Pg.AllocR at qa
      have ql := fun wx => Pc.local_any wx c 0 (by omega) (by have := Pc.slots_range (c := c) (by omega); omega)
      have hkl := Pg.alK_lt hF.o
      rw [hF.k] at hkl
      have qo := fun wx => Pc.of_any wx c s (Pg.alK P) (by omega) (by have := Pc.slots_range (c := c) (by omega); have := hF.s; omega) (by have := (Pc.per_range h8).2; omega)
      have eo : Pc.ofR c s (Pg.alK P) = ((Pc.addr c s (Pg.alK P) : Int), 0) := by unfold Pc.ofR; rw [if_pos ⟨hF.s, by unfold Pc.nb; rw [if_pos h8]; exact hkl⟩]
      rw [eo] at qo
      obtain ⟨ws1, ws2⟩ := sub_arith h8 hF.s
      rw [← hF.v] at ws1 ws2
      have HG0 := Hid.of (And.intro hG (And.intro hF hP8))
      have tY : decide ((0 : Int) ≤ (Y : Int)) = true := by simp
      generalize Pc.loc c 0 = l0 at *
      generalize Pc.addr c s (Pg.alK P) = A at *
      obtain ⟨K, hK⟩ : ∃ K, Pg.alK P = K := ⟨_, rfl⟩
      rw [hK] at qa qo
      clear hG hF eh ep eo hkl hP8 hK c4 q0
      go_wp2_with fail
      refine qf.mono ?_
      rintro e w1 ⟨rfl, rfl⟩
      clear qf
      go_wp2_with fail
      refine qa.mono ?_
      rintro e w2 ⟨rfl, r2⟩
      obtain ⟨v3, g3⟩ := HG0.out.1.j.page HG0.out.2.1.p r2 (Pg.alS_len HG0.out.2.1.o HG0.out.2.2 HG0.out.2.1.b)
      have G3 := Hid.of (show HG w' X g' p v' cp t2.H.D t2.M.C X g' v3 (mal0 t2 c (Y : Int) P).H (mal0 t2 c (Y : Int) P).S (mal0 t2 c (Y : Int) P).M w2 from g3)
      have qfu := Pg.full_any w2 (g' (Y : Int)) p.a (Pg.alP P) (g3.j.h.page (Y : Int) (Pg.alP P) (by show eget (eset _ _ _) _ = _; rw [eget_eset, if_pos rfl]))
      clear qa r2 g3 d4 d36 lk
      cases hfu : Pg.full (Pg.alP P) with
      | true =>
        rw [hfu] at qfu
        have qr := Line.rep_remove w2 (X.lb c) (X.lm c) (t2.H.L c) (Y : Int) (G3.out.j.h.line c h8)
        have HE := Hid.of (show mal1 t2 c (Y : Int) P = { mal0 t2 c (Y : Int) P with H := { (mal0 t2 c (Y : Int) P).H with L := upl t2.H.L c (Line.removeL (t2.H.L c) (Y : Int)) } } by unfold mal1; rw [hfu]; rfl)
        clear hfu
        go_wp2_with fail
        refine qfu.mono ?_
        rintro e w4 ⟨rfl, rfl⟩
        go_wp2_with fail
        refine qr.mono ?_
        rintro e w5 ⟨rfl, l5, k5⟩
        have HF := Hid.of (show HG w X g p v cp t.H.D t.M.C X g' v3 (mal1 t2 c (Y : Int) P).H (mal1 t2 c (Y : Int) P).S (mal1 t2 c (Y : Int) P).M w5 from by
          rw [HE.out]
          have g5 := G3.out.j.own (G3.out.j.h.setLine h8 l5 k5) (k5.mono (fun x _ hx => ⟨.line c, h8, hx⟩)) (fun i hi => hi) G3.out.j.pg
          have e1 : (mal0 t2 c (Y : Int) P).M.C = t2.M.C := rfl
          have g35 := G3.out.trans (e1 ▸ g5)
          rw [HG0.out.1.c] at g35
          exact HG0.out.1.trans g35)
        clear qr qfu l5 k5
        go_wp2_with fail
        refine (ql _).mono ?_
        rintro e w6 ⟨rfl, rfl⟩
        clear ql
        go_wp2_with fail
        refine (qo _).mono ?_
        rintro e w7 ⟨rfl, rfl⟩
        clear qo
        go_wp2
        simp only [Exit.jump]
        go_ret2
        exact ⟨rfl, g', v3, HF.out⟩
      | false =>
        rw [hfu] at qfu
        have HE := Hid.of (show mal1 t2 c (Y : Int) P = mal0 t2 c (Y : Int) P by unfold mal1; rw [hfu]; rfl)
        have HF := Hid.of (show HG w X g p v cp t.H.D t.M.C X g' v3 (mal1 t2 c (Y : Int) P).H (mal1 t2 c (Y : Int) P).S (mal1 t2 c (Y : Int) P).M w2 from by
          rw [HE.out]
          have g35 := G3.out
          rw [HG0.out.1.c] at g35
          exact HG0.out.1.trans g35)
        clear hfu
        go_wp2_with fail
        refine qfu.mono ?_
        rintro e w4 ⟨rfl, rfl⟩
        clear qfu
        go_wp2_with fail
        refine (ql _).mono ?_
        rintro e w6 ⟨rfl, rfl⟩
        clear ql
        go_wp2_with fail
        refine (qo _).mono ?_
        rintro e w7 ⟨rfl, rfl⟩
        clear qo
        go_wp2
        simp only [Exit.jump]
        go_ret2
        exact ⟨rfl, g', v3, HF.out⟩
  · intro hr
    go_wp2_with fail
    refine q0.mono ?_
    rintro e w1 ⟨rfl, rfl⟩
    clear q0
    go_wp2_with fail
    first
      | (refine wp_label ?_
         rcases HJ0.out.2.2.1 with e | e
         · exact hr 0 _ _ ⟨_, maFrame_is .., .inr ⟨rfl, g, v, by rw [e]; exact HG.refl HJ0.out.1 (Keeps.refl _ _)⟩⟩
         · exact hr 1 _ _ ⟨_, maFrame_is .., .inl ⟨rfl, rfl, e⟩⟩)
      | (go_step3
         refine (by assumption : ∀ (a : Act) (w : World), Code.wp _ _ _ a w → _) _ _ ?_
         rcases HJ0.out.2.2.1 with e | e
         · exact hr 0 _ _ ⟨_, maFrame_is .., .inr ⟨rfl, g, v, by rw [e]; exact HG.refl HJ0.out.1 (Keeps.refl _ _)⟩⟩
         · exact hr 1 _ _ ⟨_, maFrame_is .., .inl ⟨rfl, rfl, e⟩⟩)
end He
end Go.Proofs.YtnheibcjcgacpaaGreatDoor

/-! The heap package's walk: Malloc's other answers. -/
namespace Go.Proofs.YtnheibcjcgacpaaGreatDoor
open Go.RowKit Go.ChangeMaps
namespace He
set_option maxRecDepth 100000 in
set_option maxHeartbeats 2000000 in
theorem malloc_bad (w : World) (X : HX) (g : Int → Pg.Pla) (p : Ar.Pl) (v : Value) (cp : Co.Pla) (t : T3) (n : Int) (hn : Cl.kind n = -1) (j : HJ w X g p v cp t.H t.S t.M) :
    Calls Tryz.prog 20 #[.pointer (some ⟨X.hb, 0, none⟩), .int .i64 n] w (MalR w X g p v cp t t 0 2) := by
  have q0 := Cl.of_any w n
  rw [hn] at q0
  have HJ0 := Hid.of j
  clear j hn
  go_enter Tryz.func20, Tryz.ntmps20
  go_wp2
  refine wp_scope_once 0 (fun _ _ _ => False) rfl (fun _ _ _ h => h.elim) ?_
  intro hr
  clear hr
  go_wp2_with fail
  refine q0.mono ?_
  rintro e w1 ⟨rfl, rfl⟩
  clear q0
  go_wp2
  simp only [Exit.jump]
  go_ret2
  exact ⟨rfl, g, v, HG.refl HJ0.out (Keeps.refl _ _)⟩
set_option maxRecDepth 100000 in
set_option maxHeartbeats 2000000 in
theorem malloc_nohold (w : World) (X : HX) (g : Int → Pg.Pla) (p : Ar.Pl) (v : Value) (cp : Co.Pla) (t : T3) (n : Int) (c : Nat) (hn : Cl.kind n = (c : Int)) (h24 : c < 24) (h8 : 8 ≤ c) (hok : holdOk t c = false) (hW : t.H.W.length ≤ 1000000) (j : HJ w X g p v cp t.H t.S t.M) :
    Calls Tryz.prog 20 #[.pointer (some ⟨X.hb, 0, none⟩), .int .i64 n] w (MalR w X g p v cp t t 0 13) := by
  have q0 := Cl.of_any w n
  rw [hn] at q0
  have q1 := hold_any w X g p v cp t c h24 j hW
  unfold HoldR at q1
  have e1 : holdT t c = t := by unfold holdT; rw [hok]; rfl
  rw [hok, e1] at q1
  have t8 : decide ((8 : Int) ≤ (c : Int)) = true := by simp; omega
  have t8' : decide (8 ≤ c) = true := by simpa using h8
  have t0 : decide ((c : Int) < 0) = false := by simp
  clear j hn hok e1
  go_enter Tryz.func20, Tryz.ntmps20
  go_wp2
  refine wp_scope_once 0 (fun _ _ _ => False) rfl (fun _ _ _ h => h.elim) ?_
  intro hr
  clear hr
  go_wp2_with fail
  refine q0.mono ?_
  rintro e w1 ⟨rfl, rfl⟩
  clear q0
  go_wp2_with fail
  refine q1.mono ?_
  rintro e w2 ⟨rfl, g2⟩
  have G2 := Hid.of g2
  clear q1 g2
  go_wp2
  simp only [Exit.jump]
  go_ret2
  exact ⟨rfl, g, v, G2.out⟩
set_option maxRecDepth 100000 in
set_option maxHeartbeats 2000000 in
theorem malloc_great (w : World) (X : HX) (g : Int → Pg.Pla) (p : Ar.Pl) (v : Value) (cp : Co.Pla) (t : T3) (n : Int) (c s : Nat) (hn : Cl.kind n = (c : Int)) (h24 : c < 24) (h8 : 8 ≤ c) (hok : holdOk t c = true) (hS : holdS t c = (s : Int)) (hs : s < Pc.slots c) (hW : t.H.W.length ≤ 1000000) (j : HJ w X g p v cp t.H t.S t.M) :
    Calls Tryz.prog 20 #[.pointer (some ⟨X.hb, 0, none⟩), .int .i64 n] w (MalR w X g p v cp t (holdT t c) (Pc.addr c s 0) 0) := by
  have q0 := Cl.of_any w n
  rw [hn] at q0
  have q1 := hold_any w X g p v cp t c h24 j hW
  unfold HoldR at q1
  rw [hok, hS] at q1
  have qo := fun wx => Pc.of_any wx c s 0 h24 (by have := Pc.slots_range h24; omega) (by omega)
  have eo : Pc.ofR c s 0 = ((Pc.addr c s 0 : Int), 0) := by unfold Pc.ofR; rw [if_pos ⟨hs, by have := Pc.nb_range h24; omega⟩]
  rw [eo] at qo
  have t8 : decide ((8 : Int) ≤ (c : Int)) = true := by simp; omega
  have t8' : decide (8 ≤ c) = true := by simpa using h8
  have t0 : decide ((c : Int) < 0) = false := by simp
  generalize Pc.addr c s 0 = A at *
  generalize holdT t c = t1 at *
  clear j hn hok hS hs eo
  go_enter Tryz.func20, Tryz.ntmps20
  go_wp2
  refine wp_scope_once 0 (fun _ _ _ => False) rfl (fun _ _ _ h => h.elim) ?_
  intro hr
  clear hr
  go_wp2_with fail
  refine q0.mono ?_
  rintro e w1 ⟨rfl, rfl⟩
  clear q0
  go_wp2_with fail
  refine q1.mono ?_
  rintro e w2 ⟨rfl, g2⟩
  have G2 := Hid.of g2
  clear q1 g2
  go_wp2_with fail
  refine (qo _).mono ?_
  rintro e w3 ⟨rfl, rfl⟩
  clear qo
  go_wp2
  simp only [Exit.jump]
  go_ret2
  exact ⟨rfl, g, v, G2.out⟩
set_option maxRecDepth 100000 in
set_option maxHeartbeats 2000000 in
theorem malloc_none (w : World) (X : HX) (g : Int → Pg.Pla) (p : Ar.Pl) (v : Value) (cp : Co.Pla) (t : T3) (n : Int) (c : Nat) (hn : Cl.kind n = (c : Int)) (h8 : c < 8) (hL : t.H.L c = []) (hok : holdOk t c = false) (hW : t.H.W.length ≤ 1000000) (j : HJ w X g p v cp t.H t.S t.M) :
    Calls Tryz.prog 20 #[.pointer (some ⟨X.hb, 0, none⟩), .int .i64 n] w (MalR w X g p v cp t t 0 13) := by
  have q0 := Cl.of_any w n
  rw [hn] at q0
  have c4 := j.h.lineCell h8
  have q1 := hold_any w X g p v cp t c (by omega) j hW
  unfold HoldR at q1
  have e1 : holdT t c = t := by unfold holdT; rw [hok]; rfl
  rw [hok, e1] at q1
  have qf := Line.rep_front w (X.lb c) (X.lm c) (t.H.L c) (j.h.line c h8)
  rw [hL] at qf
  have eh : Line.hd ([] : List Int) = -1 := rfl
  rw [eh] at qf
  have hci : (c : Int) < 24 := by omega
  have hc8 : (c : Int) < 8 := by omega
  have hc0 : (0 : Int) ≤ (c : Int) := by omega
  have t8 : decide ((8 : Int) ≤ (c : Int)) = false := by simp; omega
  have t8' : decide (8 ≤ c) = false := by simp; omega
  have t0 : decide ((c : Int) < 0) = false := by simp
  clear j hn hok e1 hL eh
  go_enter Tryz.func20, Tryz.ntmps20
  go_wp2
  refine wp_scope_once 0 (fun m a' w' => ∃ (u : Nat → Value), a' = maFrame (.pointer (some ⟨X.hb, 0, none⟩)) (.int .i64 c) (.pointer (some ⟨X.lb c, 0, none⟩)) u ∧ w' = w) rfl ?_ ?_
  · rintro m a' w' ⟨u, hf, rfl⟩
    unfold maFrame at hf
    subst hf
    clear c4 q0
    go_wp2_with fail
    refine qf.mono ?_
    rintro e w1 ⟨rfl, rfl⟩
    clear qf
    go_wp2_with fail
    refine q1.mono ?_
    rintro e w2 ⟨rfl, g2⟩
    have G2 := Hid.of g2
    clear q1 g2
    go_wp2
    simp only [Exit.jump]
    go_ret2
    exact ⟨rfl, g, v, G2.out⟩
  · intro hr
    go_wp2_with fail
    refine q0.mono ?_
    rintro e w1 ⟨rfl, rfl⟩
    clear q0
    go_wp2_with fail
    first
      | (refine wp_label ?_
         exact hr 0 _ _ ⟨_, maFrame_is .., rfl⟩)
      | (go_step3
         refine (by assumption : ∀ (a : Act) (w : World), Code.wp _ _ _ a w → _) _ _ ?_
         exact hr 0 _ _ ⟨_, maFrame_is .., rfl⟩)
end He
end Go.Proofs.YtnheibcjcgacpaaGreatDoor

/-! The heap package's walk: Free. -/
namespace Go.Proofs.YtnheibcjcgacpaaGreatDoor
open Go.RowKit Go.ChangeMaps
namespace Pg
theorem freeS_len {P : PG} {S : Ar.AS} {k : Nat} (hk : P.kind < 8) (h : k < Pc.per P.kind) (hb : P.base + 512 ≤ S.B.length) : (freeS P S k).B.length = S.B.length := by
  have h1 := lc_le hk h hb
  have h2 := Pc.un_range (c := P.kind) (by omega)
  have e : (bput S.B (lc P k) (List.replicate (Pc.un P.kind) 0)).length = S.B.length := bput_length _ _ _ (by rw [List.length_replicate]; exact h1)
  unfold freeS
  show (Ar.sto _ _ _).length = _
  rw [Ar.sto_len (by rw [e]; omega), e]
theorem freeS_T (P : PG) (S : Ar.AS) (k : Nat) : (freeS P S k).T.length ≤ S.T.length + 2 := by
  unfold freeS
  have h1 := Ar.note_len (Ar.note S.T (lc P k) (Pc.un P.kind) true) (lc P k) 8 true
  have h2 := Ar.note_len S.T (lc P k) (Pc.un P.kind) true
  show (Ar.note _ _ 8 true).length ≤ _
  omega
end Pg
namespace He
/-- A block of a small kind comes back: a full page is in its line again; the block is its page's; an empty page goes. -/
def fr0 (t : T3) (c : Nat) (v : Int) (P : Pg.PG) : T3 := if Pg.full P then { t with H := { t.H with L := upl t.H.L c (Line.pushL (t.H.L c) v) } } else t
def fr1 (t : T3) (v : Int) (P : Pg.PG) (k : Nat) : T3 := ⟨{ t.H with D := eset t.H.D v (Pg.freeP P k) }, Pg.freeS P t.S k, t.M⟩
def fr2 (t : T3) (c : Nat) (v : Int) : T3 := { t with H := { { t.H with L := upl t.H.L c (Line.removeL (t.H.L c) v) } with D := edel t.H.D v } }
def free3 (t : T3) (c s Y : Nat) (P : Pg.PG) (k : Nat) : T3 := if Pg.used (Pg.freeP P k) = 0 then rel3 (fr2 (fr1 (fr0 t c (Y : Int) P) (Y : Int) P k) c (Y : Int)) c s else fr1 (fr0 t c (Y : Int) P) (Y : Int) P k
theorem fr0_same (t : T3) (c : Nat) (v : Int) (P : Pg.PG) : (fr0 t c v P).H.D = t.H.D ∧ (fr0 t c v P).S = t.S := by
  unfold fr0
  split
  · exact ⟨rfl, rfl⟩
  · exact ⟨rfl, rfl⟩
def FreR (w : World) (X : HX) (g : Int → Pg.Pla) (p : Ar.Pl) (v : Value) (cp : Co.Pla) (t t' : T3) (E : Int) (e : Ending) (w' : World) : Prop := e = .returned (.int .i64 E) ∧ ∃ v', HG w X g p v cp t.H.D t.M.C X g v' t'.H t'.S t'.M w'
set_option maxRecDepth 100000 in
set_option maxHeartbeats 1000000 in
theorem free_none (w : World) (X : HX) (g : Int → Pg.Pla) (p : Ar.Pl) (v : Value) (cp : Co.Pla) (t : T3) (a : Int) (ha : -9223372036854775808 ≤ a ∧ a ≤ 9223372036854775807) (hb : blk t.H a = none) (j : HJ w X g p v cp t.H t.S t.M) :
    Calls Tryz.prog 23 #[.pointer (some ⟨X.hb, 0, none⟩), .int .i64 a] w (FreR w X g p v cp t t 13) := by
  have q1 := block_any w X g p v cp t.H t.S t.M a ha j
  rw [hb] at q1
  unfold blkV at q1
  dsimp only at q1
  have HJ0 := Hid.of j
  clear j hb ha
  go_enter Tryz.func23, Tryz.ntmps23
  go_wp2_with fail
  refine q1.mono ?_
  rintro e w1 ⟨rfl, k1⟩
  have HK := Hid.of k1
  clear q1 k1
  go_wp2
  go_ret
  exact ⟨rfl, v, HG.refl HJ0.out HK.out⟩
set_option maxRecDepth 100000 in
set_option maxHeartbeats 1000000 in
theorem free_great (w : World) (X : HX) (g : Int → Pg.Pla) (p : Ar.Pl) (v : Value) (cp : Co.Pla) (t : T3) (a : Int) (c s k : Nat) (ha : -9223372036854775808 ≤ a ∧ a ≤ 9223372036854775807) (hb : blk t.H a = some (c, s, k)) (h8 : 8 ≤ c) (j : HJ w X g p v cp t.H t.S t.M) (ht : t.S.T.length + 16 ≤ 1000000000) :
    Calls Tryz.prog 23 #[.pointer (some ⟨X.hb, 0, none⟩), .int .i64 a] w (FreR w X g p v cp t (rel3 t c s) 0) := by
  have q1 := block_any w X g p v cp t.H t.S t.M a ha j
  rw [hb] at q1
  unfold blkV at q1
  dsimp only at q1
  obtain ⟨h24, hs, -, -⟩ := findR_some (blk_kind hb).1
  have t8 : decide ((8 : Int) ≤ (c : Int)) = true := by simp; omega
  have t8' : decide (8 ≤ c) = true := by simpa using h8
  have q2 := fun wx (hx : HJ wx X g p v cp t.H t.S t.M) => release_any wx X g p v cp t c s h24 hs hx ht
  unfold RelR at q2
  have HJ0 := Hid.of (And.intro j ht)
  generalize rel3 t c s = t1 at *
  clear j hb ha ht
  go_enter Tryz.func23, Tryz.ntmps23
  go_wp2_with fail
  refine q1.mono ?_
  rintro e w1 ⟨rfl, k1⟩
  have HK := Hid.of k1
  have q3 := q2 w1 (HJ0.out.1.old k1)
  clear q1 k1 q2
  go_wp2_with fail
  refine q3.mono ?_
  rintro e w2 ⟨rfl, v2, g2⟩
  have HF := Hid.of ((HG.refl HJ0.out.1 HK.out).trans g2)
  clear q3 g2
  go_wp2
  go_ret
  exact ⟨rfl, v2, HF.out⟩
set_option maxRecDepth 100000 in
set_option maxHeartbeats 4000000 in
theorem free_small (w : World) (X : HX) (g : Int → Pg.Pla) (p : Ar.Pl) (v : Value) (cp : Co.Pla) (t : T3) (a : Int) (c s k Y : Nat) (P : Pg.PG) (ha : -9223372036854775808 ≤ a ∧ a ≤ 9223372036854775807) (hb : blk t.H a = some (c, s, k)) (h8 : c < 8) (hY : Y = Pc.loc c s) (hp : eget t.H.D (Y : Int) = some P) (hc : P.kind = c) (hB : P.base + 512 ≤ t.S.B.length) (j : HJ w X g p v cp t.H t.S t.M) (ht : t.S.T.length + 20 ≤ 1000000000) :
    Calls Tryz.prog 23 #[.pointer (some ⟨X.hb, 0, none⟩), .int .i64 a] w (FreR w X g p v cp t (free3 t c s Y P k) 0) := by
  have q1 := block_any w X g p v cp t.H t.S t.M a ha j
  rw [hb] at q1
  unfold blkV at q1
  dsimp only at q1
  obtain ⟨-, hs, hk, -⟩ := findR_some (blk_kind hb).1
  have hf : P.S.getD k false = false := by
    have h1 := (blk_kind hb).2
    unfold hadB hasB at h1
    rw [← hY, hp, show decide (8 ≤ c) = false by simp; omega, Bool.false_or, Bool.and_eq_true] at h1
    have h2 := h1.2
    unfold Pg.has at h2
    have h3 := of_decide_eq_true h2
    have h4 := h3.2.2
    rw [Int.toNat_natCast] at h4
    exact h4
  have hkp : k < Pc.per P.kind := by rw [hc]; unfold Pc.nb at hk; rw [if_pos h8] at hk; exact hk
  have t8 : decide ((8 : Int) ≤ (c : Int)) = false := by simp; omega
  have t8' : decide (8 ≤ c) = false := by simp; omega
  have hci : (c : Int) < 24 := by omega
  have hc8 : (c : Int) < 8 := by omega
  have hc0 : (0 : Int) ≤ (c : Int) := by omega
  have q2 := fun wx => Pc.local_any wx c s (by omega) hs
  rw [← hY] at q2
  have HP := Hid.of (And.intro hs (And.intro hp (And.intro hkp (And.intro hf (And.intro hB (And.intro ht (show P.kind < 8 by rw [hc]; exact h8)))))))
  have HJ0 := Hid.of j
  have HT0 := Hid.of (show fr0 t c (Y : Int) P = fr0 t c (Y : Int) P from rfl)
  clear j hb ha ht hs hk hf hkp hY hc hB hp
  cases hfu : Pg.full P with
  | true =>
    have e0 : fr0 t c (Y : Int) P = { t with H := { t.H with L := upl t.H.L c (Line.pushL (t.H.L c) (Y : Int)) } } := by unfold fr0; rw [hfu]; rfl
    have HE := Hid.of e0
    have HFu := Hid.of hfu
    clear hfu e0
    go_enter Tryz.func23, Tryz.ntmps23
    go_wp2_with fail
    refine q1.mono ?_
    rintro e w1 ⟨rfl, k1⟩
    have J1 := Hid.of (HJ0.out.old k1)
    have HK1 := Hid.of k1
    obtain ⟨-, -, -, -, c36⟩ := J1.out.h.four
    have c4 := J1.out.h.lineCell h8
    have lk := J1.out.h.look (Y : Int)
    have ep : pgv g t.H.D (Y : Int) = .pointer (some ⟨(g (Y : Int)).b, 0, none⟩) := by unfold pgv; rw [HP.out.2.1]; rfl
    rw [ep] at lk
    have q3 := Pg.full_any w1 (g (Y : Int)) p.a P (J1.out.h.page (Y : Int) P HP.out.2.1)
    rw [HFu.out] at q3
    have q4 := Line.rep_push w1 (X.lb c) (X.lm c) (t.H.L c) (Y : Int) (J1.out.h.line c h8)
    clear q1 k1 ep
    go_wp2_with fail
    refine (q2 _).mono ?_
    rintro e w2 ⟨rfl, rfl⟩
    clear q2
    go_wp2_with fail
    refine q3.mono ?_
    rintro e w3 ⟨rfl, rfl⟩
    clear q3
    go_wp2_with fail
    refine q4.mono ?_
    rintro e w4 ⟨rfl, l4, k4⟩
    have G4 := Hid.of (show HG w X g p v cp t.H.D t.M.C X g v (fr0 t c (Y : Int) P).H (fr0 t c (Y : Int) P).S (fr0 t c (Y : Int) P).M w4 from by
      rw [HE.out]
      exact (HG.refl HJ0.out HK1.out).trans (J1.out.own (J1.out.h.setLine h8 l4 k4) (k4.mono (fun x _ hx => ⟨.line c, h8, hx⟩)) (fun i hi => hi) J1.out.pg))
    have HS := Hid.of (fr0_same t c (Y : Int) P)
    clear q4 l4 k4 lk c4 c36 HT0
    obtain ⟨T0, hT0⟩ : ∃ T0, fr0 t c (Y : Int) P = T0 := ⟨_, rfl⟩
    rw [hT0] at G4 HS
    have HT0 := Hid.of hT0
    clear hT0
    have hp4 : eget T0.H.D (Y : Int) = some P := by rw [HS.out.1]; exact HP.out.2.1
    have q5 := Pg.free_any w4 (g (Y : Int)) p v P T0.S k (G4.out.j.pj hp4) HP.out.2.2.1 HP.out.2.2.2.1 (by rw [HS.out.2]; exact HP.out.2.2.2.2.1) (by rw [HS.out.2]; have := HP.out.2.2.2.2.2.1; omega)
    unfold Pg.FreeR at q5
    have HP4 := Hid.of hp4
    clear hp4
    go_wp2_with fail
    refine q5.mono ?_
    rintro e w5 ⟨rfl, r5⟩
    obtain ⟨v5, g5⟩ := G4.out.j.page HP4.out r5 (Pg.freeS_len HP.out.2.2.2.2.2.2 HP.out.2.2.1 (by rw [HS.out.2]; exact HP.out.2.2.2.2.1))
    have G5 := Hid.of (show HG w X g p v cp t.H.D t.M.C X g v5 (fr1 T0 (Y : Int) P k).H (fr1 T0 (Y : Int) P k).S (fr1 T0 (Y : Int) P k).M w5 from by
      have e1 := G4.out.c
      rw [e1] at g5
      exact G4.out.trans g5)
    have qu := Pg.used_any w5 (g (Y : Int)) p.a (Pg.freeP P k) (g5.j.h.page (Y : Int) (Pg.freeP P k) (by show eget (eset _ _ _) _ = _; rw [eget_eset, if_pos rfl]))
    have HT1 := Hid.of (show (fr1 T0 (Y : Int) P k).S.T.length ≤ t.S.T.length + 2 from by rw [← HS.out.2]; exact Pg.freeS_T P T0.S k)
    have HRes := Hid.of (show free3 t c s Y P k = if Pg.used (Pg.freeP P k) = 0 then rel3 (fr2 (fr1 T0 (Y : Int) P k) c (Y : Int)) c s else fr1 T0 (Y : Int) P k from by rw [← HT0.out]; rfl)
    obtain ⟨T1, hT1⟩ : ∃ T1, fr1 T0 (Y : Int) P k = T1 := ⟨_, rfl⟩
    rw [hT1] at G5 HT1 HRes
    obtain ⟨U, hU⟩ : ∃ U, Pg.used (Pg.freeP P k) = U := ⟨_, rfl⟩
    rw [hU] at qu HRes
    have HD1 := Hid.of (show (eget T1.H.D (Y : Int)).isSome = true from by rw [← hT1]; show (eget (eset _ _ _) _).isSome = true; rw [eget_eset, if_pos rfl]; rfl)
    clear q5 r5 g5 hT1 hU
    by_cases hU0 : U = 0
    · have tU : ((U : Int) == 0) = true := by simp [hU0]
      go_wp2_with fail
      refine qu.mono ?_
      rintro e w6 ⟨rfl, k6⟩
      have J6 := Hid.of (G5.out.j.old k6)
      have c4 := J6.out.h.lineCell h8
      have qr := Line.rep_remove w6 (X.lb c) (X.lm c) (T1.H.L c) (Y : Int) (J6.out.h.line c h8)
      have G6 := Hid.of (show HG w X g p v cp t.H.D t.M.C X g v5 T1.H T1.S T1.M w6 from by
        have := HG.refl G5.out.j k6
        rw [G5.out.c] at this
        exact G5.out.trans this)
      clear qu k6
      go_wp2_with fail
      refine qr.mono ?_
      rintro e w7 ⟨rfl, l7, k7⟩
      have g7 := J6.out.own (J6.out.h.setLine h8 l7 k7) (k7.mono (fun x _ hx => ⟨.line c, h8, hx⟩)) (fun i hi => hi) J6.out.pg
      have G7 := Hid.of g7
      obtain ⟨-, -, -, -, c36⟩ := g7.j.h.four
      obtain ⟨w8, hd8, e8, k8⟩ := g7.j.h.small.del (P := Tryz.prog) (ty := 0) _ Tryz.underlying153 Tryz.underlying3 (Y : Int)
      have g8 := g7.j.own (g7.j.h.delPage e8 k8) (k8.mono (fun x _ hx => ⟨.small, trivial, hx⟩)) (fun i hi => okp_edel hi) g7.j.pg
      have G8 := Hid.of (show HG w X g p v cp t.H.D t.M.C X g v5 (fr2 T1 c (Y : Int)).H (fr2 T1 c (Y : Int)).S (fr2 T1 c (Y : Int)).M w8 from by
        have a := g7.trans g8
        rw [G6.out.c] at a
        exact G6.out.trans a)
      have q9 := release_any w8 X g p v5 cp (fr2 T1 c (Y : Int)) c s (by omega) HP.out.1 G8.out.j (by have := HT1.out; have := HP.out.2.2.2.2.2.1; show T1.S.T.length + 16 ≤ _; omega)
      unfold RelR at q9
      have HC := Hid.of G8.out.c
      rw [show (fr2 T1 c (Y : Int)).M.C = t.M.C from G8.out.c] at q9
      clear qr l7 k7 g7 e8 k8 g8 c4
      go_wp2_with fail
      refine q9.mono ?_
      rintro e w9 ⟨rfl, v9, g9⟩
      have HF := Hid.of (show HG w X g p v cp t.H.D t.M.C X g v9 (free3 t c s Y P k).H (free3 t c s Y P k).S (free3 t c s Y P k).M w9 from by
        rw [HRes.out, if_pos hU0]
        exact G8.out.trans g9)
      clear q9 g9 hd8 c36
      go_wp2
      go_ret
      exact ⟨rfl, v9, HF.out⟩
    · have tU : ((U : Int) == 0) = false := by simpa using hU0
      go_wp2_with fail
      refine qu.mono ?_
      rintro e w6 ⟨rfl, k6⟩
      have HF := Hid.of (show HG w X g p v cp t.H.D t.M.C X g v5 (free3 t c s Y P k).H (free3 t c s Y P k).S (free3 t c s Y P k).M w6 from by
        rw [HRes.out, if_neg hU0]
        have := HG.refl G5.out.j k6
        rw [G5.out.c] at this
        exact G5.out.trans this)
      clear qu k6
      go_wp2
      go_ret
      exact ⟨rfl, v5, HF.out⟩
  | false =>
    have e0 : fr0 t c (Y : Int) P = t := by unfold fr0; rw [hfu]; rfl
    have HE := Hid.of e0
    have HFu := Hid.of hfu
    clear hfu e0
    go_enter Tryz.func23, Tryz.ntmps23
    go_wp2_with fail
    refine q1.mono ?_
    rintro e w1 ⟨rfl, k1⟩
    have J1 := Hid.of (HJ0.out.old k1)
    have HK1 := Hid.of k1
    obtain ⟨-, -, -, -, c36⟩ := J1.out.h.four
    have lk := J1.out.h.look (Y : Int)
    have ep : pgv g t.H.D (Y : Int) = .pointer (some ⟨(g (Y : Int)).b, 0, none⟩) := by unfold pgv; rw [HP.out.2.1]; rfl
    rw [ep] at lk
    have q3 := Pg.full_any w1 (g (Y : Int)) p.a P (J1.out.h.page (Y : Int) P HP.out.2.1)
    rw [HFu.out] at q3
    clear q1 k1 ep
    go_wp2_with fail
    refine (q2 _).mono ?_
    rintro e w2 ⟨rfl, rfl⟩
    clear q2
    go_wp2_with fail
    refine q3.mono ?_
    rintro e w4 ⟨rfl, rfl⟩
    clear q3
    obtain ⟨w4, hw4⟩ : ∃ z, z = w1 := ⟨_, rfl⟩
    subst hw4
    have G4 := Hid.of (show HG w X g p v cp t.H.D t.M.C X g v (fr0 t c (Y : Int) P).H (fr0 t c (Y : Int) P).S (fr0 t c (Y : Int) P).M w4 from by
      rw [HE.out]
      exact HG.refl HJ0.out HK1.out)
    have HS := Hid.of (fr0_same t c (Y : Int) P)
    clear lk c36 HT0
    obtain ⟨T0, hT0⟩ : ∃ T0, fr0 t c (Y : Int) P = T0 := ⟨_, rfl⟩
    rw [hT0] at G4 HS
    have HT0 := Hid.of hT0
    clear hT0
    have hp4 : eget T0.H.D (Y : Int) = some P := by rw [HS.out.1]; exact HP.out.2.1
    have q5 := Pg.free_any w4 (g (Y : Int)) p v P T0.S k (G4.out.j.pj hp4) HP.out.2.2.1 HP.out.2.2.2.1 (by rw [HS.out.2]; exact HP.out.2.2.2.2.1) (by rw [HS.out.2]; have := HP.out.2.2.2.2.2.1; omega)
    unfold Pg.FreeR at q5
    have HP4 := Hid.of hp4
    clear hp4
    go_wp2_with fail
    refine q5.mono ?_
    rintro e w5 ⟨rfl, r5⟩
    obtain ⟨v5, g5⟩ := G4.out.j.page HP4.out r5 (Pg.freeS_len HP.out.2.2.2.2.2.2 HP.out.2.2.1 (by rw [HS.out.2]; exact HP.out.2.2.2.2.1))
    have G5 := Hid.of (show HG w X g p v cp t.H.D t.M.C X g v5 (fr1 T0 (Y : Int) P k).H (fr1 T0 (Y : Int) P k).S (fr1 T0 (Y : Int) P k).M w5 from by
      have e1 := G4.out.c
      rw [e1] at g5
      exact G4.out.trans g5)
    have qu := Pg.used_any w5 (g (Y : Int)) p.a (Pg.freeP P k) (g5.j.h.page (Y : Int) (Pg.freeP P k) (by show eget (eset _ _ _) _ = _; rw [eget_eset, if_pos rfl]))
    have HT1 := Hid.of (show (fr1 T0 (Y : Int) P k).S.T.length ≤ t.S.T.length + 2 from by rw [← HS.out.2]; exact Pg.freeS_T P T0.S k)
    have HRes := Hid.of (show free3 t c s Y P k = if Pg.used (Pg.freeP P k) = 0 then rel3 (fr2 (fr1 T0 (Y : Int) P k) c (Y : Int)) c s else fr1 T0 (Y : Int) P k from by rw [← HT0.out]; rfl)
    obtain ⟨T1, hT1⟩ : ∃ T1, fr1 T0 (Y : Int) P k = T1 := ⟨_, rfl⟩
    rw [hT1] at G5 HT1 HRes
    obtain ⟨U, hU⟩ : ∃ U, Pg.used (Pg.freeP P k) = U := ⟨_, rfl⟩
    rw [hU] at qu HRes
    have HD1 := Hid.of (show (eget T1.H.D (Y : Int)).isSome = true from by rw [← hT1]; show (eget (eset _ _ _) _).isSome = true; rw [eget_eset, if_pos rfl]; rfl)
    clear q5 r5 g5 hT1 hU
    by_cases hU0 : U = 0
    · have tU : ((U : Int) == 0) = true := by simp [hU0]
      go_wp2_with fail
      refine qu.mono ?_
      rintro e w6 ⟨rfl, k6⟩
      have J6 := Hid.of (G5.out.j.old k6)
      have c4 := J6.out.h.lineCell h8
      have qr := Line.rep_remove w6 (X.lb c) (X.lm c) (T1.H.L c) (Y : Int) (J6.out.h.line c h8)
      have G6 := Hid.of (show HG w X g p v cp t.H.D t.M.C X g v5 T1.H T1.S T1.M w6 from by
        have := HG.refl G5.out.j k6
        rw [G5.out.c] at this
        exact G5.out.trans this)
      clear qu k6
      go_wp2_with fail
      refine qr.mono ?_
      rintro e w7 ⟨rfl, l7, k7⟩
      have g7 := J6.out.own (J6.out.h.setLine h8 l7 k7) (k7.mono (fun x _ hx => ⟨.line c, h8, hx⟩)) (fun i hi => hi) J6.out.pg
      have G7 := Hid.of g7
      obtain ⟨-, -, -, -, c36⟩ := g7.j.h.four
      obtain ⟨w8, hd8, e8, k8⟩ := g7.j.h.small.del (P := Tryz.prog) (ty := 0) _ Tryz.underlying153 Tryz.underlying3 (Y : Int)
      have g8 := g7.j.own (g7.j.h.delPage e8 k8) (k8.mono (fun x _ hx => ⟨.small, trivial, hx⟩)) (fun i hi => okp_edel hi) g7.j.pg
      have G8 := Hid.of (show HG w X g p v cp t.H.D t.M.C X g v5 (fr2 T1 c (Y : Int)).H (fr2 T1 c (Y : Int)).S (fr2 T1 c (Y : Int)).M w8 from by
        have a := g7.trans g8
        rw [G6.out.c] at a
        exact G6.out.trans a)
      have q9 := release_any w8 X g p v5 cp (fr2 T1 c (Y : Int)) c s (by omega) HP.out.1 G8.out.j (by have := HT1.out; have := HP.out.2.2.2.2.2.1; show T1.S.T.length + 16 ≤ _; omega)
      unfold RelR at q9
      have HC := Hid.of G8.out.c
      rw [show (fr2 T1 c (Y : Int)).M.C = t.M.C from G8.out.c] at q9
      clear qr l7 k7 g7 e8 k8 g8 c4
      go_wp2_with fail
      refine q9.mono ?_
      rintro e w9 ⟨rfl, v9, g9⟩
      have HF := Hid.of (show HG w X g p v cp t.H.D t.M.C X g v9 (free3 t c s Y P k).H (free3 t c s Y P k).S (free3 t c s Y P k).M w9 from by
        rw [HRes.out, if_pos hU0]
        exact G8.out.trans g9)
      clear q9 g9 hd8 c36
      go_wp2
      go_ret
      exact ⟨rfl, v9, HF.out⟩
    · have tU : ((U : Int) == 0) = false := by simpa using hU0
      go_wp2_with fail
      refine qu.mono ?_
      rintro e w6 ⟨rfl, k6⟩
      have HF := Hid.of (show HG w X g p v cp t.H.D t.M.C X g v5 (free3 t c s Y P k).H (free3 t c s Y P k).S (free3 t c s Y P k).M w6 from by
        rw [HRes.out, if_neg hU0]
        have := HG.refl G5.out.j k6
        rw [G5.out.c] at this
        exact G5.out.trans this)
      clear qu k6
      go_wp2
      go_ret
      exact ⟨rfl, v5, HF.out⟩
end He
end Go.Proofs.YtnheibcjcgacpaaGreatDoor
