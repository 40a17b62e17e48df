/- The model by definition: a part's operations keep it as it should be. No program in sight. -/
import Derived.Test.YtagmkkddjdlncaaDoorMoP
set_option linter.unusedVariables false
set_option linter.unusedSimpArgs false
namespace Go.Proofs.YtagmkkddjdlncaaDoor
namespace Ca
structure Inv (C : Cp) : Prop where
  ok : Ok C
  cN : C.N ≤ 17592186044416
  sk : ∀ x ∈ C.E, 0 ≤ x.1 ∧ x.1 < 4160
  sn : (keysOf C.E).Nodup
/-- What a call that gives a handle does to the table. -/
structure Gives (C C' : Cp) (a : Int) (E : Int) : Prop where
  inv : Inv C'
  t : C'.T = C.T
  slots : ∀ x ∈ C'.E, x ∈ C.E ∨ x.2.a = a
  yes : E = 0 → C'.N = C.N + 1
  no : E ≠ 0 → C' = C
theorem Gives.refl {C : Cp} (h : Inv C) (a : Int) {E : Int} (hE : E ≠ 0) : Gives C C a E := ⟨h, rfl, fun x hx => .inl hx, fun e => absurd e hE, fun _ => rfl⟩
theorem putA_gives {C : Cp} (h : Inv C) (a : Int) (r : Nat) : Gives C (putA C a r).2 a (putA C a r).1.2 := by
  unfold putA
  split
  · exact Gives.refl h a (by simp)
  · rename_i hN
    split
    · exact Gives.refl h a (by simp)
    · rename_i k _ hf
      have hk := (Sh.frees_take hf).1
      rw [h.ok.a] at hk
      refine ⟨⟨⟨h.ok.t, Nat.le_add_left _ _, ?_, h.ok.b⟩, ?_, ?_, nodup_eset h.sn _ _⟩, rfl, ?_, fun _ => rfl, fun e => absurd rfl e⟩
      · simpa using h.ok.a
      · show C.N + 1 ≤ _; omega
      · intro x hx
        rcases mem_eset hx with rfl | ⟨hx, _⟩
        · constructor
          · simp
          · show ((0 + k : Nat) : Int) < 4160; omega
        · exact h.sk x hx
      · intro x hx
        rcases mem_eset hx with rfl | ⟨hx, _⟩
        · exact .inr rfl
        · exact .inl hx
theorem putB_gives {C : Cp} (h : Inv C) (a : Int) (r : Nat) : Gives C (putB C a r).2 a (putB C a r).1.2 := by
  unfold putB
  split
  · exact Gives.refl h a (by simp)
  · rename_i hN
    split
    · exact Gives.refl h a (by simp)
    · rename_i k _ hf
      have hk := (Sh.frees_take hf).1
      rw [h.ok.b] at hk
      refine ⟨⟨⟨h.ok.t, Nat.le_add_left _ _, h.ok.a, ?_⟩, ?_, ?_, nodup_eset h.sn _ _⟩, rfl, ?_, fun _ => rfl, fun e => absurd rfl e⟩
      · simpa using h.ok.b
      · show C.N + 1 ≤ _; omega
      · intro x hx
        rcases mem_eset hx with rfl | ⟨hx, _⟩
        · constructor
          · show (0 : Int) ≤ ((4096 + k : Nat) : Int); omega
          · show ((4096 + k : Nat) : Int) < 4160; omega
        · exact h.sk x hx
      · intro x hx
        rcases mem_eset hx with rfl | ⟨hx, _⟩
        · exact .inr rfl
        · exact .inl hx
theorem grant_gives {C : Cp} (h : Inv C) (a : Int) : Gives C (grant C a).2 a (grant C a).1.2 := by
  unfold grant
  split
  · exact Gives.refl h a (by simp)
  · exact putA_gives h a 7
theorem fnd_mem {C : Cp} {h : Nat} {y : Slt} (hf : fnd C h = some y) : ∃ k, (k, y) ∈ C.E := by
  unfold fnd at hf
  split at hf
  · split at hf
    · rename_i x hx
      split at hf
      · cases hf; exact ⟨_, eget_memE hx⟩
      · cases hf
    · cases hf
  · cases hf
/-- A handle that is restricted: its slot is another one's, of the same address. -/
theorem restrict_gives {C : Cp} (h : Inv C) (u : Nat) (x : Int) : ∃ a, (∀ y ∈ (restrict C u x).2.E, y ∈ C.E ∨ ∃ z ∈ C.E, y.2.a = z.2.a) ∧ Gives C (restrict C u x).2 a (restrict C u x).1.2 := by
  unfold restrict
  cases hf : fnd C u with
  | none => exact ⟨0, fun y hy => .inl hy, Gives.refl h 0 (by simp)⟩
  | some y =>
    obtain ⟨k, hk⟩ := fnd_mem hf
    dsimp only
    split
    · exact ⟨0, fun y hy => .inl hy, Gives.refl h 0 (by simp)⟩
    · split
      · have hg := putB_gives h y.a x.toNat
        refine ⟨y.a, fun z hz => ?_, hg⟩
        rcases hg.slots z hz with h1 | h1
        · exact .inl h1
        · exact .inr ⟨_, hk, h1⟩
      · exact ⟨0, fun y hy => .inl hy, Gives.refl h 0 (by simp)⟩
theorem giveS_len (S : List Bool) (k : Int) : (Sh.giveS S k).length = S.length := by unfold Sh.giveS; split <;> simp
theorem keysOf_mem {α : Type} {E : List (Int × α)} {x : Int × α} (h : x ∈ E) : x.1 ∈ keysOf E := List.mem_map.2 ⟨x, h, rfl⟩
theorem mem_nodup {α : Type} {E : List (Int × α)} (hn : (keysOf E).Nodup) {x : Int × α} (hx : x ∈ E) : eget E x.1 = some x.2 := by
  induction E with
  | nil => simp at hx
  | cons y E ih =>
    have hn' : y.1 ∉ keysOf E ∧ (keysOf E).Nodup := by simpa [keysOf] using hn
    rw [eget_cons]
    rcases List.mem_cons.1 hx with rfl | hx
    · rw [if_pos rfl]
    · rw [if_neg (fun e => hn'.1 (by rw [e]; exact keysOf_mem hx))]
      exact ih hn'.2 hx
theorem revAt_inv {C : Cp} (h : Inv C) (a : Int) (k : Nat) : Inv (revAt C a k) ∧ (revAt C a k).T = C.T ∧ (revAt C a k).N = C.N ∧ (∀ x ∈ (revAt C a k).E, x ∈ C.E ∧ (x.1 = (k : Int) → x.2.a ≠ a)) := by
  unfold revAt
  cases hx : eget C.E (k : Int) with
  | none =>
    refine ⟨h, rfl, rfl, fun x hx' => ⟨hx', fun e => ?_⟩⟩
    have := mem_nodup h.sn hx'
    rw [e, hx] at this; cases this
  | some y =>
    dsimp only
    split
    · rename_i ha
      have hE : ∀ x ∈ edel C.E (k : Int), x ∈ C.E ∧ (x.1 = (k : Int) → x.2.a ≠ a) := fun x hx' => ⟨(mem_edel.1 hx').1, fun e => absurd e (mem_edel.1 hx').2⟩
      split
      · exact ⟨⟨⟨h.ok.t, h.ok.n, by rw [giveS_len]; exact h.ok.a, h.ok.b⟩, h.cN, fun x hx' => h.sk x (hE x hx').1, nodup_edel h.sn _⟩, rfl, rfl, hE⟩
      · exact ⟨⟨⟨h.ok.t, h.ok.n, h.ok.a, by rw [giveS_len]; exact h.ok.b⟩, h.cN, fun x hx' => h.sk x (hE x hx').1, nodup_edel h.sn _⟩, rfl, rfl, hE⟩
    · rename_i ha
      refine ⟨h, rfl, rfl, fun x hx' => ⟨hx', fun e => ?_⟩⟩
      have := mem_nodup h.sn hx'
      rw [e, hx] at this
      cases this
      exact ha
theorem revTo_inv {C : Cp} (h : Inv C) (a : Int) : ∀ k : Nat, Inv (revTo C a k) ∧ (revTo C a k).T = C.T ∧ (revTo C a k).N = C.N ∧ (∀ x ∈ (revTo C a k).E, x ∈ C.E ∧ (x.1 < (k : Int) → x.2.a ≠ a))
  | 0 => ⟨h, rfl, rfl, fun x hx => ⟨hx, fun e => by have := (h.sk x hx).1; omega⟩⟩
  | k + 1 => by
    obtain ⟨h1, h2, h3, h4⟩ := revTo_inv h a k
    obtain ⟨g1, g2, g3, g4⟩ := revAt_inv h1 a k
    refine ⟨g1, g2.trans h2, g3.trans h3, fun x hx => ?_⟩
    obtain ⟨m1, m2⟩ := g4 x hx
    obtain ⟨m3, m4⟩ := h4 x m1
    refine ⟨m3, fun e => ?_⟩
    by_cases hk : x.1 = (k : Int)
    · exact m2 hk
    · exact m4 (by omega)
theorem revoke_inv {C : Cp} (h : Inv C) (a : Int) : Inv (revoke C a) ∧ (revoke C a).T = C.T ∧ (revoke C a).N = C.N ∧ (∀ x ∈ (revoke C a).E, x ∈ C.E ∧ x.2.a ≠ a) := by
  obtain ⟨h1, h2, h3, h4⟩ := revTo_inv h a 4160
  exact ⟨h1, h2, h3, fun x hx => ⟨(h4 x hx).1, (h4 x hx).2 (h1.sk x hx).2⟩⟩
theorem new_inv {T N : Nat} (hT : T < 8) (h1 : 1 ≤ N) (h2 : N ≤ 17592186044416) : Inv (new T N) := by
  unfold new
  exact ⟨⟨hT, h1, List.length_replicate, List.length_replicate⟩, h2, fun x hx => by simp at hx, by simp [keysOf]⟩
end Ca
namespace Mo
theorem Ok.inv {P : PP} (h : Ok P) : Ca.Inv P.C := ⟨h.ca, h.cN, h.sk, h.sn⟩
theorem eget_eset_some {E : List (Int × MO)} {k j : Int} {o : MO} (h : (eget E j).isSome = true) : (eget (eset E k o) j).isSome = true := by
  rw [eget_eset]
  split
  · rfl
  · exact h
theorem Ok.make {P : PP} (h : Ok P) (m : Int) : Ok (Mo.mk P m).2 ∧ (Mo.mk P m).2.C.T = P.C.T ∧ (Mo.mk P m).2.k = P.k := by
  unfold Mo.mk
  have hg := Ca.grant_gives h.inv P.n
  split
  · exact ⟨h, rfl, rfl⟩
  · rename_i h0
    split
    · exact ⟨h, rfl, rfl⟩
    · rename_i hq
      have hr := Cl.charge_ne h0
      have hcr := Cl.charge_range hr
      split
      · rename_i hE
        have hN := hg.yes hE
        refine ⟨{ h with
          ca := hg.inv.ok
          cn := ?_
          cN := hg.inv.cN
          sum := ?_
          keys := ?_
          nd := nodup_eset h.nd _ _
          sz := ?_
          slots := ?_
          sk := hg.inv.sk
          sn := hg.inv.sn }, hg.t, rfl⟩
        · show P.n + 1 < (Ca.grant P.C P.n).2.N
          rw [hN]; have := h.cn; omega
        · show Mo.sum (eset P.E P.n _) ≤ P.q
          rw [eset_none' h.new_none, sum_append]
          simp only [Mo.sum, List.map_cons, List.map_nil, List.sum_cons, List.sum_nil] at hq ⊢
          omega
        · intro x hx
          show 0 ≤ x.1 ∧ x.1 < ((P.n + 1 : Nat) : Int)
          rcases mem_eset hx with rfl | ⟨hx, _⟩
          · constructor
            · simp
            · show (P.n : Int) < _; omega
          · have := h.keys x hx; omega
        · intro x hx
          rcases mem_eset hx with rfl | ⟨hx, _⟩
          · simp only [List.length_replicate]; omega
          · exact h.sz x hx
        · intro x hx
          show (eget (eset P.E P.n _) x.2.a).isSome = true
          rcases hg.slots x hx with h1 | h1
          · exact eget_eset_some (h.slots x h1)
          · rw [h1, eget_eset, if_pos rfl]; rfl
      · rename_i hE
        have := hg.no hE
        rw [this]
        exact ⟨h, rfl, rfl⟩
theorem Ok.drop {P : PP} (h : Ok P) (a : Int) : Ok (drop P a) ∧ (drop P a).C.T = P.C.T ∧ (drop P a).k = P.k := by
  obtain ⟨g1, g2, g3, g4⟩ := Ca.revoke_inv h.inv a
  unfold Mo.drop
  generalize Ca.revoke P.C a = C' at *
  refine ⟨{ h with
    ca := g1.ok
    cn := by show P.n < C'.N; rw [g3]; exact h.cn
    cN := g1.cN
    sum := Nat.le_trans (sum_edel_le _ _) h.sum
    keys := fun x hx => h.keys x (mem_edel.1 hx).1
    nd := nodup_edel h.nd _
    sz := fun x hx => h.sz x (mem_edel.1 hx).1
    slots := fun x hx => ?_
    sk := g1.sk
    sn := g1.sn }, g2, rfl⟩
  show (eget (edel P.E a) x.2.a).isSome = true
  rw [eget_edel, if_neg (g4 x hx).2]
  exact h.slots x (g4 x hx).1
/-- An object is another one at its key, of the same cost. -/
theorem Ok.set {P : PP} (h : Ok P) {k : Int} {o : MO} (ho : eget P.E k = some o) (l : Bs) (h1 : 1 ≤ l.length) (h2 : l.length ≤ o.cost) : Ok { P with E := eset P.E k ⟨l, o.cost⟩ } := by
  have hm := eget_memE ho
  refine { h with
    sum := ?_
    keys := ?_
    nd := nodup_eset h.nd _ _
    sz := ?_
    slots := fun x hx => eget_eset_some (h.slots x hx) }
  · show Mo.sum (eset P.E k _) ≤ P.q
    rw [sum_eset_same (w := ⟨l, o.cost⟩) h.nd ho rfl]; exact h.sum
  · intro x hx
    rcases mem_eset hx with rfl | ⟨hx, _⟩
    · exact h.keys (k, o) hm
    · exact h.keys x hx
  · intro x hx
    rcases mem_eset hx with rfl | ⟨hx, _⟩
    · exact ⟨h1, h2, (h.sz _ hm).2.2⟩
    · exact h.sz x hx
theorem resz_len (l : Bs) (m : Nat) : (resz l m).length = m := by
  unfold resz; rw [bput_length]
  · simp
  · simp; omega
/-- .. as a part's Find tells. -/
theorem Ok.fnd' {P : PP} (ok : Ok P) {h : Nat} {r : Int} (he : (Ca.Fnd P.C h r).2 = 0) : ∃ o, eget P.E (Ca.Fnd P.C h r).1 = some o := by
  unfold Ca.Fnd at he ⊢
  cases hf : Ca.fnd P.C h with
  | none => rw [hf] at he; simp at he
  | some y =>
    obtain ⟨k, hk⟩ := Ca.fnd_mem hf
    rw [hf] at he
    dsimp only at he ⊢
    split at he
    · rename_i h1
      rw [if_pos h1]
      split at he
      · rename_i h2
        rw [if_pos h2]
        exact Option.isSome_iff_exists.1 (ok.slots _ hk)
      · simp at he
    · simp at he
theorem Ok.realloc {P : PP} (h : Ok P) (u : Nat) (m : Int) : Ok (realloc P u m).2 ∧ (realloc P u m).2.C.T = P.C.T ∧ (realloc P u m).2.k = P.k := by
  unfold Mo.realloc
  split
  · exact ⟨h, rfl, rfl⟩
  · rename_i he
    obtain ⟨o, ho⟩ := h.fnd' (by simpa using he)
    have hob : obj P (Ca.Fnd P.C u 4).1 = o := by unfold obj; rw [ho]; rfl
    rw [hob]
    split
    · rename_i hin
      have hm : ¬ (m < 1 ∨ 8192 < m) := by
        intro hx
        have : Cl.kind m = -1 := by unfold Cl.kind; rw [if_pos hx]
        omega
      have hcr := Cl.charge_range hm
      refine ⟨h.set ho _ ?_ ?_, rfl, rfl⟩
      · rw [resz_len]; omega
      · rw [resz_len]; omega
    · have hk := h.make m
      split
      · exact hk
      · rename_i hE
        have hE' : (Mo.mk P m).1.2 = 0 := by simpa using hE
        have hform : ∃ c, eget (Mo.mk P m).2.E P.n = some ⟨List.replicate m.toNat 0, c⟩ ∧ c = (Cl.charge m).toNat ∧ 1 ≤ m ∧ m ≤ 8192 := by
          unfold Mo.mk at hE' ⊢
          split at hE'
          · simp at hE'
          · rename_i h0
            rw [if_neg h0]
            have hr := Cl.charge_ne h0
            split at hE'
            · simp at hE'
            · rename_i hq
              rw [if_neg hq]
              split at hE'
              · rename_i hG
                rw [if_pos hG]
                exact ⟨_, by rw [eget_eset, if_pos rfl], rfl, by omega, by omega⟩
              · rename_i hG
                exact absurd hE' hG
        obtain ⟨c, hc1, hc2, hc3, hc4⟩ := hform
        have hcr := Cl.charge_range (n := m) (by omega)
        have h2 := hk.1.set hc1 (resz o.bs m.toNat) (by rw [resz_len]; omega) (by rw [resz_len]; simp only; omega)
        have h3 := h2.drop (Ca.Fnd P.C u 4).1
        rw [hc2] at h3
        exact ⟨h3.1, h3.2.1.trans hk.2.1, h3.2.2.trans hk.2.2⟩
theorem Ok.pdo {P : PP} (h : Ok P) (kind n m : Int) (u : Nat) (d : Bs) : Ok (pdo P kind n m u d).2 ∧ (pdo P kind n m u d).2.C.T = P.C.T ∧ (pdo P kind n m u d).2.k = P.k := by
  unfold Mo.pdo
  split
  · exact h.make n
  split
  · exact h.make _
  split
  · dsimp only
    split
    · exact h.drop _
    · exact ⟨h, rfl, rfl⟩
  split
  · exact h.realloc u n
  split
  · exact ⟨h, rfl, rfl⟩
  split
  · exact ⟨h, rfl, rfl⟩
  split
  · dsimp only
    split
    · rename_i he
      have hs : (Ca.Fnd P.C u 2).2 = 0 ∧ 0 ≤ n ∧ n ≤ (obj P (Ca.Fnd P.C u 2).1).bs.length ∧ (d.length : Int) ≤ (obj P (Ca.Fnd P.C u 2).1).bs.length - n := by
        unfold spanE at he
        split at he
        · rename_i h1; exact absurd he h1
        · rename_i h1
          split at he
          · rename_i h2
            exact ⟨by omega, h2.1, h2.2.2.1, h2.2.2.2⟩
          · simp at he
      obtain ⟨o, ho⟩ := h.fnd' hs.1
      have hob : obj P (Ca.Fnd P.C u 2).1 = o := by unfold obj; rw [ho]; rfl
      unfold write
      rw [hob] at hs ⊢
      have hsz := h.sz _ (eget_memE ho)
      simp only at hsz
      have hl : (bput o.bs n.toNat d).length = o.bs.length := bput_length _ _ _ (by omega)
      exact ⟨h.set ho _ (by rw [hl]; omega) (by rw [hl]; omega), rfl, rfl⟩
    · exact ⟨h, rfl, rfl⟩
  split
  · obtain ⟨a, hs, hg⟩ := Ca.restrict_gives h.inv u n
    by_cases hE : (Ca.restrict P.C u n).1.2 = 0
    · have hN := hg.yes hE
      refine ⟨{ h with
        ca := hg.inv.ok
        cn := by show P.n < (Ca.restrict P.C u n).2.N; rw [hN]; have := h.cn; omega
        cN := hg.inv.cN
        slots := fun x hx => ?_
        sk := hg.inv.sk
        sn := hg.inv.sn }, hg.t, rfl⟩
      rcases hs x hx with h1 | ⟨z, hz, h1⟩
      · exact h.slots x h1
      · rw [h1]; exact h.slots z hz
    · have := hg.no hE
      rw [this]
      exact ⟨h, rfl, rfl⟩
  · exact ⟨h, rfl, rfl⟩
end Mo
end Go.Proofs.YtagmkkddjdlncaaDoor
