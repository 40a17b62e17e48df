/- The model package's walk: Copy; maps.Clone at its map, slices.Clone at bytes. -/
import Derived.Test.YtagmkkddjdlncaaDoorModE
import Derived.Test.YtagmkkddjdlncaaDoorApp
set_option linter.unusedVariables false
set_option linter.unusedSimpArgs false
namespace Go.Proofs.YtagmkkddjdlncaaDoor
open Go.RowKit Go.ChangeMaps
def BCloneR (w : World) (l : Bs) (n : Nat) (e : Ending) (w' : World) : Prop := ∃ r tl, e = .returned (.slice (some ⟨r, 0, none⟩) n (n + tl.length)) ∧ BAt w' r l tl ∧ w.heap.size ≤ r ∧ Keeps (fun _ => False) w w'
theorem own_bytes {w : World} {v : Value} {n : Nat} {l : Bs} (h : Own w 5 1 v n (u8s l)) (hn : 1 ≤ n) : ∃ r tl, v = .slice (some ⟨r, 0, none⟩) n (n + tl.length) ∧ BAt w r l tl ∧ v.ownBlock = some r := by
  obtain ⟨h1, h2⟩ := h
  rcases h2 with ⟨h2, h3⟩ | ⟨g, cap, cur, hv, hg, hh, hc, hcm, hs, ht⟩
  · exfalso
    rw [h3] at h1
    simp at h1
    omega
  · have hl : cur.toList.length = cap := by simpa using hs
    refine ⟨g, cur.toList.drop n, ?_, ?_, by rw [hv]; rfl⟩
    · rw [hv, List.length_drop, hl]
      congr 1
      omega
    · unfold BAt
      rw [hh]
      congr 2
      rw [Nat.mul_one] at ht
      rw [← ht, List.take_append_drop]
set_option maxRecDepth 100000 in
set_option maxHeartbeats 1000000 in
theorem bclone_any (w : World) (ad : Addr) (n cap : Nat) (l : Bs) (hl : l.length = n) (h1 : 1 ≤ n) (hr : Rd w (some ad) (u8s l)) (hn : n ≤ 1000000000) :
    Calls Tryd.prog 22 #[.slice (some ad) n cap] w (BCloneR w l n) := by
  have hq : ∀ w, (binOp .eql 61 (.slice (some ad) n cap) (.slice none 0 0)).run Tryd.prog w = .ok (.bool (some ad).isNone) w := fun w => Lib.run_eql_slice_nil w _ _ (some ad) n cap 0 0 Tryd.underlying61
  obtain ⟨w3, hw3⟩ : ∃ w3, w.alloc (.cells #[] 5) = w3 := ⟨_, rfl⟩
  have o3 : Own w3 5 1 (.slice (some ⟨w.heap.size, 0, none⟩) 0 0) 0 [] := by rw [← hw3]; exact own_empty _ _ _
  have k3 : Keeps (fun _ => False) w w3 := by rw [← hw3]; exact (Keeps.refl _ _).alloc _
  have r3 := hr.old k3
  have hz : w.heap.size ≤ w3.heap.size := k3.size
  clear hr
  go_enter Tryd.func22, Tryd.ntmps22
  go_wp2_with (at_builtin; refine wpList_appO slBytes w3 rfl _ _ rfl _ 0 [] rfl o3 (some ad) n cap (u8s l) rfl (by intro e; cases e) (by rw [u8s_length, hl, Nat.mul_one]) r3 (u8s_one l) (by unfold maxLen; omega) (by omega) ?_; intro v5 w5 o5 k5 at5; have HF := Hid.of (clone_end k3 o5 k5 at5); clear o5 k5 at5 o3 k3 r3 hw3)
  go_ret
  obtain ⟨o, k⟩ := HF.out
  obtain ⟨r, tl, hv, hb, ho⟩ := own_bytes o.1 h1
  exact ⟨r, tl, by rw [hv]; rfl, hb, o.2 r ho, k⟩
set_option maxRecDepth 100000 in
set_option maxHeartbeats 1000000 in
theorem clone_obj (w : World) (r : Nat) (es : Array MapEntry) (cl : Nat) (hb : w.heap[r]? = some (.map es cl)) :
    Calls Tryd.prog 21 #[.map (some r)] w fun e w' => e = .returned (.map (some w.heap.size)) ∧ w' = w.alloc (.map es cl) := by
  have hq := fun w => run_eql_map_nil_sl (P := Tryd.prog) w 56 _ _ (some r) Tryd.underlying56
  go_enter Tryd.func21, Tryd.ntmps21
  go_wp2
  rw [run_callFunc_extern Tryd.func40 (by kernel_rfl) (by kernel_rfl) (by kernel_rfl) (e := Extern.MapsClone.clone) (by kernel_rfl), run_maps_clone_sl w 56 hb]
  simp only [Result.andThen]
  rw [Oper.upon_value]
  go_wp2
  rw [run_typeAssert_map_sl _ 56 20 _ _ _ Tryd.underlying56]
  simp only [Result.andThen]
  rw [Oper.upon_value]
  go_wp2
  go_ret
  exact ⟨rfl, rfl⟩
namespace Mo
def CloneR (w : World) (L : List (Int × (Rw × MO))) (e : Ending) (w' : World) : Prop := ∃ m, e = .returned (.map (some m)) ∧ EMap oenc w' m L ∧ m = w.heap.size ∧ Keeps (fun _ => False) w w'
theorem clone_any (w : World) (m : Nat) (L : List (Int × (Rw × MO))) (h : EMap oenc w m L) :
    Calls Tryd.prog 21 #[.map (some m)] w (CloneR w L) := by
  obtain ⟨es, cl, hb, hs, hl⟩ := h
  refine (clone_obj w m es cl hb).mono ?_
  rintro e w' ⟨rfl, rfl⟩
  exact ⟨_, rfl, ⟨es, cl, alloc_new _ _, hs, hl⟩, rfl, (Keeps.refl _ _).alloc _⟩
theorem eset_self {E : List (Int × MO)} (hn : (keysOf E).Nodup) {k : Int} {v : MO} (h : eget E k = some v) : eset E k v = E := by
  have hs : (E.find? (fun p => p.1 == k)).isSome = true := by rw [← eget_isSome, h]; rfl
  unfold eset
  rw [if_pos hs]
  conv => rhs; rw [← List.map_id E]
  refine List.map_congr_left fun x hx => ?_
  by_cases e : x.1 = k
  · have := Ca.mem_nodup hn hx
    rw [e, h] at this
    obtain ⟨x1, x2⟩ := x
    simp only [Option.some.injEq] at this e
    simp [e, this]
  · simp [e]
/-- The rows of a part that is copied, on the way: those of Lft are still to come. W: from there on all rows are new. -/
structure DI (W : Nat) (w5 : World) (ob r : Nat) (g g' : Int → Rw) (P : PP) (Lft : List (Int × MO)) (wr : World) : Prop where
  rng : ERange oenc wr ob r (tag g' P.E) (tag g Lft)
  sub : ∀ x ∈ Lft, x ∈ P.E
  nd : (keysOf Lft).Nodup
  done : ∀ x ∈ P.E, x.1 ∉ keysOf Lft → BAt wr (g' x.1).b x.2.bs (g' x.1).t ∧ W ≤ (g' x.1).b
  inj : ∀ x ∈ P.E, ∀ y ∈ P.E, x.1 ∉ keysOf Lft → y.1 ∉ keysOf Lft → (g' x.1).b = (g' y.1).b → x.1 = y.1
  keeps : Keeps (fun x => x = ob ∨ x = r) w5 wr
theorem tag_split {g : Int → Rw} {L : List (Int × MO)} {l1 l2 : List (Int × (Rw × MO))} {k : Int} {v : Rw × MO} (h : tag g L = l1 ++ (k, v) :: l2) : ∃ A B, L = A ++ (k, v.2) :: B ∧ v.1 = g k ∧ l1 = tag g A ∧ l2 = tag g B := by
  unfold tag at h
  obtain ⟨a1, a2, ha, hb, hc⟩ := List.map_eq_append_iff.1 h
  obtain ⟨p, a3, rfl, hp, hq⟩ := List.map_eq_cons_iff.1 hc
  obtain ⟨p1, p2⟩ := p
  simp only [Prod.mk.injEq] at hp
  obtain ⟨rfl, rfl⟩ := hp
  exact ⟨a1, a3, ha, rfl, hb.symm, hq.symm⟩
theorem tag_app (g : Int → Rw) (A B : List (Int × MO)) : tag g A ++ tag g B = tag g (A ++ B) := by simp [tag]
theorem keys_mid {A B : List (Int × MO)} {x : Int × MO} (hn : (keysOf (A ++ x :: B)).Nodup) : x.1 ∉ keysOf (A ++ B) ∧ (keysOf (A ++ B)).Nodup ∧ ∀ k, k ∈ keysOf (A ++ x :: B) ↔ k = x.1 ∨ k ∈ keysOf (A ++ B) := by
  unfold keysOf at hn ⊢
  simp only [List.map_append, List.map_cons] at hn ⊢
  rw [List.nodup_append] at hn
  obtain ⟨n1, n2, n3⟩ := hn
  rw [List.nodup_cons] at n2
  refine ⟨?_, ?_, ?_⟩
  · intro h
    rcases List.mem_append.1 h with h | h
    · exact n3 _ h _ (by simp) rfl
    · exact n2.1 h
  · rw [List.nodup_append]
    exact ⟨n1, n2.2, fun a ha b hb => n3 a ha b (by simp [hb])⟩
  · intro k
    simp only [List.mem_append, List.mem_cons]
    constructor
    · rintro (h | h | h)
      · exact .inr (.inl h)
      · exact .inl h
      · exact .inr (.inr h)
    · rintro (h | h | h)
      · exact .inr (.inl h)
      · exact .inl h
      · exact .inr (.inr h)
/-- One row more. -/
theorem DI.step {W : Nat} {w5 : World} {ob r : Nat} {g g' : Int → Rw} {P : PP} {A B : List (Int × MO)} {k : Int} {o : MO} {wr w2 w3 w4 : World} (h : DI W w5 ob r g g' P (A ++ (k, o) :: B) wr) (ok : Ok P) (hW : W = w5.heap.size) (hr : r < W) (hob : ob < W)
    (k2 : Keeps (fun x => x = r) wr w2) (k3 : Keeps (fun _ => False) w2 w3) {row : Nat} {tl : List Value} (hrow : BAt w3 row o.bs tl) (hlo : w2.heap.size ≤ row)
    (R4 : ERange oenc w4 ob r (eset (tag g' P.E) k (⟨row, tl⟩, o)) (tag g (A ++ B))) (k4 : Keeps (fun x => x = ob) w3 w4) : DI W w5 ob r g (gset g' k ⟨row, tl⟩) P (A ++ B) w4 := by
  obtain ⟨n1, n2, n3⟩ := keys_mid h.nd
  have hmem : (k, o) ∈ P.E := h.sub _ (by simp)
  have hget := Ca.mem_nodup ok.nd hmem
  have s1 := h.keeps.size
  have s2 := k2.size
  have s3 := k3.size
  have keep4 : ∀ b, W ≤ b → b < wr.heap.size → w4.heap[b]? = wr.heap[b]? := fun b hb hl => by
    rw [k4.block b (by omega) (by show ¬ b = ob; omega), k3.block b (by omega) (fun x => x), k2.block b hl (by show ¬ b = r; omega)]
  refine ⟨?_, fun x hx => h.sub x ?_, n2, ?_, ?_, ?_⟩
  · rw [tag_eset, eset_self ok.nd hget] at R4
    exact R4
  · rcases List.mem_append.1 hx with hx | hx
    · simp [hx]
    · simp [hx]
  · intro x hx hxk
    by_cases e : x.1 = k
    · have : x.2 = o := by
        have := Ca.mem_nodup ok.nd hx
        rw [e, hget] at this
        exact (Option.some.inj this).symm
      rw [e, gset_same, this]
      exact ⟨hrow.keep k4 (by show ¬ row = ob; omega), by show W ≤ row; omega⟩
    · rw [gset_other _ _ _ e]
      obtain ⟨d1, d2⟩ := h.done x hx (fun hh => by
        rcases (n3 x.1).1 hh with h1 | h1
        · exact e h1
        · exact hxk h1)
      have hlt := d1.lt
      refine ⟨?_, d2⟩
      unfold BAt
      rw [keep4 _ d2 hlt]
      exact d1
  · intro x hx y hy hxk hyk hb
    have old : ∀ z ∈ P.E, z.1 ∉ keysOf (A ++ B) → z.1 ≠ k → BAt wr (g' z.1).b z.2.bs (g' z.1).t ∧ W ≤ (g' z.1).b := fun z hz hzk e => h.done z hz (fun hh => by
        rcases (n3 z.1).1 hh with h1 | h1
        · exact e h1
        · exact hzk h1)
    by_cases ex : x.1 = k
    · by_cases ey : y.1 = k
      · rw [ex, ey]
      · rw [ex, gset_same, gset_other _ _ _ ey] at hb
        have := (old y hy hyk ey).1.lt
        have hb' : row = (g' y.1).b := hb
        omega
    · by_cases ey : y.1 = k
      · rw [ey, gset_same, gset_other _ _ _ ex] at hb
        have := (old x hx hxk ex).1.lt
        have hb' : (g' x.1).b = row := hb
        omega
      · rw [gset_other _ _ _ ex, gset_other _ _ _ ey] at hb
        refine h.inj x hx y hy (fun hh => ?_) (fun hh => ?_) hb
        · rcases (n3 x.1).1 hh with h1 | h1
          · exact ex h1
          · exact hxk h1
        · rcases (n3 y.1).1 hh with h1 | h1
          · exact ey h1
          · exact hyk h1
  · exact ((h.keeps.trans (k2.mono (fun x _ hx => .inr hx))).trans (k3.mono (fun _ _ x => x.elim))).trans (k4.mono (fun x _ hx => .inl hx))
/-- A model that is copied, on the way: the parts below k are new. -/
structure CI (w : World) (c : Nat) (M : MM) (p p' : Pls) (k : Nat) (wr : World) : Prop where
  cells : wr.heap[c]? = some (.cells (md M.Pg M.C (fun i => .pointer (if i < k then ptr M p' i else ptr M p i)) (fun i => (M.s i : Int))) 51 (0, 0))
  part : ∀ i, i < k → ∀ P, M.T i = some P → PAt wr (p'.pl i) (p'.gg i) P
  nm : ∀ i, i < k → ∀ P, M.T i = some P → ¬ Fp (p'.pl i) (p'.gg i) P.E c
  fresh : ∀ i, i < k → ∀ P, M.T i = some P → ∀ x, Fp (p'.pl i) (p'.gg i) P.E x → w.heap.size ≤ x
  apart : ∀ i j, i < k → j < k → i ≠ j → ∀ P Q, M.T i = some P → M.T j = some Q → ∀ x, Fp (p'.pl i) (p'.gg i) P.E x → ¬ Fp (p'.pl j) (p'.gg j) Q.E x
  lo : w.heap.size ≤ c
  keeps : Keeps (fun _ => False) w wr
def CopyR (w : World) (M : MM) (e : Ending) (w' : World) : Prop := ∃ c p', e = .returned (.pointer (some ⟨c, 0, none⟩)) ∧ MAt w' c M p' ∧ (∀ x, MFp c M p' x → w.heap.size ≤ x) ∧ Keeps (fun _ => False) w w'
theorem md_congr {P C : Int} {q q' : Nat → Value} {s : Nat → Int} (h : ∀ i, i < 8 → q i = q' i) : md P C q s = md P C q' s := by
  unfold md
  rw [h 0 (by omega), h 1 (by omega), h 2 (by omega), h 3 (by omega), h 4 (by omega), h 5 (by omega), h 6 (by omega), h 7 (by omega)]
theorem CI.out {w wr : World} {c : Nat} {M : MM} {p p' : Pls} (h : CI w c M p p' 8 wr) (hT : Sh.Tab w) : CopyR w M (.returned (.pointer (some ⟨c, 0, none⟩))) wr := by
  refine ⟨c, p', rfl, ⟨?_, fun i hi => h.part i hi, fun i hi => h.nm i hi, fun i j hi hj => h.apart i j hi hj, ?_⟩, ?_, h.keeps⟩
  · rw [h.cells]
    rw [md_congr (q' := fun i => .pointer (ptr M p' i)) (fun i hi => by simp [hi])]
  · have := hT.lt; have := h.lo; omega
  · rintro x (rfl | ⟨i, hi, P, hP, hx⟩)
    · exact h.lo
    · exact h.fresh i hi P hP x hx
theorem CI.skip {w wr : World} {c : Nat} {M : MM} {p p' : Pls} {k : Nat} (h : CI w c M p p' k wr) (hk : M.T k = none) : CI w c M p p' (k + 1) wr := by
  have cut : ∀ {i P}, i < k + 1 → M.T i = some P → i < k := fun {i P} hi hP => by
    by_cases e : i = k
    · subst e; rw [hk] at hP; cases hP
    · omega
  refine ⟨?_, fun i hi P hP => h.part i (cut hi hP) P hP, fun i hi P hP => h.nm i (cut hi hP) P hP, fun i hi P hP => h.fresh i (cut hi hP) P hP, fun i j hi hj hne P Q hP hQ => h.apart i j (cut hi hP) (cut hj hQ) hne P Q hP hQ, h.lo, h.keeps⟩
  rw [h.cells]
  congr 3
  funext i
  by_cases e : i = k
  · subst e
    rw [if_neg (by omega), if_pos (by omega)]
    unfold ptr
    rw [hk]; rfl
  · by_cases e2 : i < k
    · rw [if_pos e2, if_pos (by omega)]
    · rw [if_neg e2, if_neg (by omega)]
/-- One part more. -/
theorem CI.take {w wr w2 : World} {c : Nat} {M : MM} {p p' : Pls} {k : Nat} (h : CI w c M p p' k wr) (hk8 : k < 8) {P : PP} (hk : M.T k = some P) {b : Plc} {g : Int → Rw} {w1 : World} (k1 : Keeps (fun _ => False) wr w1) (hP : PAt w1 b g P) (hf : ∀ x, Fp b g P.E x → wr.heap.size ≤ x)
    (k2 : Keeps (fun x => x = c) w1 w2) (hc : w2.heap[c]? = some (.cells ((md M.Pg M.C (fun i => .pointer (if i < k then ptr M p' i else ptr M p i)) (fun i => (M.s i : Int))).setIfInBounds (2 + k) (.pointer (some ⟨b.b, 0, none⟩))) 51 (0, 0))) :
    CI w c M p ⟨upd p'.pl k b, upd p'.gg k g⟩ (k + 1) w2 := by
  have hcl := lt_of h.cells
  have lt' : ∀ i, i < k → ∀ Q, M.T i = some Q → ∀ x, Fp (p'.pl i) (p'.gg i) Q.E x → x < wr.heap.size := fun i hi Q hQ x hx => (h.part i hi Q hQ).lt hx
  refine ⟨?_, ?_, ?_, ?_, ?_, h.lo, h.keeps.trans' ((k1.mono (G := fun x => x = c) (fun _ _ x => x.elim)).trans k2) (fun x hx hl => by have := h.lo; omega)⟩
  · rw [hc, md_setpart _ _ _ _ _ hk8]
    congr 3
    funext i
    by_cases e : i = k
    · subst e
      rw [if_pos rfl, if_pos (by omega)]
      unfold ptr
      rw [hk]
      simp only [upd_same]; rfl
    · rw [if_neg e]
      by_cases e2 : i < k
      · rw [if_pos e2, if_pos (by omega)]
        unfold ptr
        simp only [upd_other _ _ e]
      · rw [if_neg e2, if_neg (by omega)]
  · intro i hi Q hQ
    by_cases e : i = k
    · subst e
      rw [hk] at hQ; cases hQ
      simp only [upd_same]
      exact hP.keep k2 (fun x hx e => by have := hf x hx; omega)
    · simp only [upd_other _ _ e]
      exact ((h.part i (by omega) Q hQ).old k1).keep k2 (fun x hx e' => h.nm i (by omega) Q hQ (e' ▸ hx))
  · intro i hi Q hQ hx
    by_cases e : i = k
    · subst e
      rw [hk] at hQ; cases hQ
      simp only [upd_same] at hx
      have := hf c hx; omega
    · simp only [upd_other _ _ e] at hx
      exact h.nm i (by omega) Q hQ hx
  · intro i hi Q hQ x hx
    by_cases e : i = k
    · subst e
      rw [hk] at hQ; cases hQ
      simp only [upd_same] at hx
      have := hf x hx; have := h.keeps.size; omega
    · simp only [upd_other _ _ e] at hx
      exact h.fresh i (by omega) Q hQ x hx
  · intro i j hi hj hij Q R hQ hR x hx hy
    by_cases e : i = k
    · subst e
      rw [hk] at hQ; cases hQ
      have ej : j ≠ i := fun e => hij e.symm
      simp only [upd_same] at hx
      simp only [upd_other _ _ ej] at hy
      have := hf x hx; have := lt' j (by omega) R hR x hy; omega
    · simp only [upd_other _ _ e] at hx
      by_cases ej : j = k
      · subst ej
        rw [hk] at hR; cases hR
        simp only [upd_same] at hy
        have := hf x hy; have := lt' i (by omega) Q hQ x hx; omega
      · simp only [upd_other _ _ ej] at hy
        exact h.apart i j (by omega) (by omega) hij Q R hQ hR x hx hy
end Mo
end Go.Proofs.YtagmkkddjdlncaaDoor
