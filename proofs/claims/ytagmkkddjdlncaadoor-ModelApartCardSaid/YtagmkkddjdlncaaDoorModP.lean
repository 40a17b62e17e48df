/- The model by definition: a part and its operations, what holds of it. No program in sight. | The model by definition: a part's operations keep it as it should be. No program in sight. | The model by definition: tenants' parts together. No program in sight. -/
import Derived.Test.YtagmkkddjdlncaaDoorLineP
import Derived.Test.YtagmkkddjdlncaaDoorByt
import Derived.Test.YtagmkkddjdlncaaDoorCaps
import Derived.Test.YtagmkkddjdlncaaDoorDem
import Derived.Test.YtagmkkddjdlncaaDoorOps
import Derived.Test.YtagmkkddjdlncaaDoorModA
set_option linter.unusedVariables false
set_option linter.unusedSimpArgs false
/-! The model by definition: a part and its operations, what holds of it. No program in sight. -/
namespace Go.Proofs.YtagmkkddjdlncaaDoor
section
variable {α : Type}
theorem eget_memE {E : List (Int × α)} {k : Int} {v : α} (h : eget E k = some v) : (k, v) ∈ E := by
  unfold eget at h
  cases hf : E.find? (fun p => p.1 == k) with
  | none => rw [hf] at h; cases h
  | some p =>
    rw [hf] at h
    have h1 := List.find?_some hf
    have h2 := List.mem_of_find?_eq_some hf
    obtain ⟨p1, p2⟩ := p
    simp only [Option.map_some, Option.some.injEq] at h
    simp only [beq_iff_eq] at h1
    subst h1 h
    exact h2
theorem mem_eset {E : List (Int × α)} {k : Int} {v : α} {x : Int × α} (h : x ∈ eset E k v) : x = (k, v) ∨ (x ∈ E ∧ x.1 ≠ k) := by
  unfold eset at h
  split at h
  · obtain ⟨p, hp, he⟩ := List.mem_map.1 h
    by_cases hk : p.1 = k
    · left; rw [← he]; simp [hk]
    · right
      have : x = p := by rw [← he]; simp [hk]
      subst this
      exact ⟨hp, hk⟩
  · rename_i hn
    rcases List.mem_append.1 h with h | h
    · right
      refine ⟨h, fun e => hn ?_⟩
      rw [List.find?_isSome]
      exact ⟨x, h, by simp [e]⟩
    · left; simpa using h
theorem mem_edel {E : List (Int × α)} {k : Int} {x : Int × α} : x ∈ edel E k ↔ x ∈ E ∧ x.1 ≠ k := by
  unfold edel
  rw [List.mem_filter]
  simp
theorem eset_none' {E : List (Int × α)} {k : Int} {v : α} (h : eget E k = none) : eset E k v = E ++ [(k, v)] := by
  unfold eset
  have : (E.find? (fun p => p.1 == k)).isSome = false := by rw [← eget_isSome, h]; rfl
  rw [this]; rfl
end
namespace Cl
theorem charge_zero {n : Int} (h : n < 1 ∨ 8192 < n) : charge n = 0 := by
  unfold charge kind; rw [if_pos h]; rfl
theorem kind_range {n : Int} (h : ¬ (n < 1 ∨ 8192 < n)) : 0 ≤ kind n ∧ kind n < 24 := by
  unfold kind; rw [if_neg h]
  repeat' split
  all_goals omega
theorem charge_range {n : Int} (h : ¬ (n < 1 ∨ 8192 < n)) : n ≤ charge n ∧ 16 ≤ charge n ∧ charge n ≤ 8192 := by
  have hk := kind_range h
  unfold charge unit
  rw [if_pos hk]
  unfold kind at hk ⊢
  rw [if_neg h] at hk ⊢
  by_cases h1 : 256 < n
  · rw [if_pos h1] at hk ⊢
    have : ¬ 8 + (n - 1) / 512 < 8 := by omega
    rw [if_neg this]
    omega
  · rw [if_neg h1] at hk ⊢
    repeat' split
    all_goals simp_all [sm]
    all_goals omega
theorem charge_ne {n : Int} (h : charge n ≠ 0) : ¬ (n < 1 ∨ 8192 < n) := fun q => h (charge_zero q)
end Cl
namespace Mo
/-- An object: its bytes, what they cost. -/
structure MO where
  bs : Bs
  cost : Nat
/-- A tenant's part: handles, colours, quota, peak, objects, how many there were. -/
structure PP where
  C : Ca.Cp
  k : Nat
  q : Nat
  t : Nat
  E : List (Int × MO)
  n : Nat
def sum (E : List (Int × MO)) : Nat := (E.map (fun x => x.2.cost)).sum
def nxt (P : PP) (z : Nat) : Nat := if P.E.length = 0 then z else max z P.t
def obj (P : PP) (a : Int) : MO := (eget P.E a).getD ⟨[], 0⟩
def mk (P : PP) (m : Int) : (Nat × Int) × PP :=
  if Cl.charge m = 0 then ((0, 2), P)
  else if (P.q : Int) < sum P.E + Cl.charge m then ((0, 3), P)
  else if (Ca.grant P.C P.n).1.2 = 0 then ((Ca.grant P.C P.n).1, { P with C := (Ca.grant P.C P.n).2, E := eset P.E P.n ⟨List.replicate m.toNat 0, (Cl.charge m).toNat⟩, n := P.n + 1 })
  else ((Ca.grant P.C P.n).1, { P with C := (Ca.grant P.C P.n).2 })
def drop (P : PP) (a : Int) : PP := { P with C := Ca.revoke P.C a, E := edel P.E a }
def resz (l : Bs) (m : Nat) : Bs := bput (List.replicate m 0) 0 (l.take m)
def realloc (P : PP) (h : Nat) (m : Int) : (Nat × Int) × PP :=
  if (Ca.Fnd P.C h 4).2 ≠ 0 then ((0, (Ca.Fnd P.C h 4).2), P)
  else if 0 ≤ Cl.kind m ∧ Cl.charge m ≤ (obj P (Ca.Fnd P.C h 4).1).cost then
    ((h, 0), { P with E := eset P.E (Ca.Fnd P.C h 4).1 ⟨resz (obj P (Ca.Fnd P.C h 4).1).bs m.toNat, (obj P (Ca.Fnd P.C h 4).1).cost⟩ })
  else if (mk P m).1.2 ≠ 0 then ((0, (mk P m).1.2), (mk P m).2)
  else (((mk P m).1.1, 0), drop { (mk P m).2 with E := eset (mk P m).2.E P.n ⟨resz (obj P (Ca.Fnd P.C h 4).1).bs m.toNat, (Cl.charge m).toNat⟩ } (Ca.Fnd P.C h 4).1)
/-- An error where bytes of an object are asked for; 0: they are there. -/
def spanE (P : PP) (h : Nat) (r from' n : Int) : Int :=
  if (Ca.Fnd P.C h r).2 ≠ 0 then (Ca.Fnd P.C h r).2
  else if 0 ≤ from' ∧ 0 ≤ n ∧ from' ≤ (obj P (Ca.Fnd P.C h r).1).bs.length ∧ n ≤ (obj P (Ca.Fnd P.C h r).1).bs.length - from' then 0 else 4
def spanB (P : PP) (h : Nat) (r from' n : Int) : Bs := ((obj P (Ca.Fnd P.C h r).1).bs.drop from'.toNat).take n.toNat
def write (P : PP) (h : Nat) (r from' : Int) (d : Bs) : PP :=
  { P with E := eset P.E (Ca.Fnd P.C h r).1 ⟨bput (obj P (Ca.Fnd P.C h r).1).bs from'.toNat d, (obj P (Ca.Fnd P.C h r).1).cost⟩ }
/-- A tenant's operation: what it comes to (without the charge), and the part behind it. -/
def pdo (P : PP) (kind n m : Int) (h : Nat) (d : Bs) : XAns × PP :=
  if kind = 4 then (⟨(mk P n).1.2, (mk P n).1.1, 0, 0, bs [], 0⟩, (mk P n).2)
  else if kind = 5 then (⟨(mk P (Op1.asks n m)).1.2, (mk P (Op1.asks n m)).1.1, 0, 0, bs [], 0⟩, (mk P (Op1.asks n m)).2)
  else if kind = 6 then (⟨(Ca.Fnd P.C h 4).2, 0, 0, 0, bs [], 0⟩, if (Ca.Fnd P.C h 4).2 = 0 then drop P (Ca.Fnd P.C h 4).1 else P)
  else if kind = 7 then (⟨(realloc P h n).1.2, (realloc P h n).1.1, 0, 0, bs [], 0⟩, (realloc P h n).2)
  else if kind = 8 then (⟨(Ca.Fnd P.C h 0).2, 0, 0, if (Ca.Fnd P.C h 0).2 = 0 then (obj P (Ca.Fnd P.C h 0).1).cost else 0, bs [], 0⟩, P)
  else if kind = 9 then (⟨spanE P h 1 n m, 0, 0, 0, if spanE P h 1 n m = 0 then bs (spanB P h 1 n m) else bs [], 0⟩, P)
  else if kind = 10 then (⟨spanE P h 2 n d.length, 0, 0, 0, bs [], 0⟩, if spanE P h 2 n d.length = 0 then write P h 2 n d else P)
  else if kind = 11 then (⟨(Ca.restrict P.C h n).1.2, (Ca.restrict P.C h n).1.1, 0, 0, bs [], 0⟩, { P with C := (Ca.restrict P.C h n).2 })
  else (⟨0, 0, 0, 0, bs [], 0⟩, P)
/-- A part as it should be. -/
structure Ok (P : PP) : Prop where
  ca : Ca.Ok P.C
  cn : P.n < P.C.N
  cN : P.C.N ≤ 17592186044416
  k : 1 ≤ P.k ∧ P.k ≤ 32
  q : 1 ≤ P.q ∧ P.q ≤ 65536
  t : P.t ≤ 65536
  sum : sum P.E ≤ P.q
  keys : ∀ x ∈ P.E, 0 ≤ x.1 ∧ x.1 < P.n
  nd : (keysOf P.E).Nodup
  sz : ∀ x ∈ P.E, 1 ≤ x.2.bs.length ∧ x.2.bs.length ≤ x.2.cost ∧ x.2.cost ≤ 8192
  slots : ∀ x ∈ P.C.E, (eget P.E x.2.a).isSome = true
  sk : ∀ x ∈ P.C.E, 0 ≤ x.1 ∧ x.1 < 4160
  sn : (keysOf P.C.E).Nodup
theorem sum_append (A B : List (Int × MO)) : sum (A ++ B) = sum A + sum B := by simp [sum]
theorem sum_ge {E : List (Int × MO)} {x : Int × MO} (h : x ∈ E) : x.2.cost ≤ sum E := by
  induction E with
  | nil => simp at h
  | cons y E ih =>
    rcases List.mem_cons.1 h with rfl | h
    · simp [sum]
    · have := ih h; simp only [sum, List.map_cons, List.sum_cons] at this ⊢; omega
theorem sum_edel {E : List (Int × MO)} {k : Int} {v : MO} (hn : (keysOf E).Nodup) (h : eget E k = some v) : sum (edel E k) + v.cost = sum E := by
  induction E with
  | nil => simp [eget_nil] at h
  | cons y E ih =>
    rw [eget_cons] at h
    have hn' : y.1 ∉ keysOf E ∧ (keysOf E).Nodup := by simpa [keysOf] using hn
    by_cases hk : y.1 = k
    · rw [if_pos hk] at h
      have e : edel (y :: E) k = E := by
        unfold edel
        rw [List.filter_cons]
        have : (!(y.1 == k)) = false := by simp [hk]
        rw [this]
        simp only [Bool.false_eq_true, if_false]
        refine List.filter_eq_self.2 fun z hz => ?_
        have : z.1 ≠ k := by
          intro e; apply hn'.1; rw [hk, ← e]; exact List.mem_map.2 ⟨z, hz, rfl⟩
        simpa using this
      rw [e]
      have : y.2 = v := by simpa using h
      rw [← this]
      simp [sum, Nat.add_comm]
    · rw [if_neg hk] at h
      have e : edel (y :: E) k = y :: edel E k := by
        unfold edel
        rw [List.filter_cons]
        have : (!(y.1 == k)) = true := by simp [hk]
        rw [this]; rfl
      rw [e]
      have := ih hn'.2 h
      simp only [sum, List.map_cons, List.sum_cons] at this ⊢; omega
theorem sum_edel_le (E : List (Int × MO)) (k : Int) : sum (edel E k) ≤ sum E := by
  induction E with
  | nil => simp [edel, sum]
  | cons y E ih =>
    unfold edel at ih ⊢
    rw [List.filter_cons]
    split
    · simp only [sum, List.map_cons, List.sum_cons] at ih ⊢; omega
    · simp only [sum, List.map_cons, List.sum_cons] at ih ⊢; omega
theorem sum_eset_same {E : List (Int × MO)} {k : Int} {v w : MO} (hn : (keysOf E).Nodup) (h : eget E k = some v) (hc : w.cost = v.cost) : sum (eset E k w) = sum E := by
  have hs : (E.find? (fun p => p.1 == k)).isSome = true := by rw [← eget_isSome, h]; rfl
  unfold eset
  rw [if_pos hs]
  unfold sum
  rw [List.map_map]
  congr 1
  refine List.map_congr_left fun x hx => ?_
  simp only [Function.comp_apply]
  by_cases hk : x.1 = k
  · have : eget E k = some x.2 := by
      clear hs h
      induction E with
      | nil => simp at hx
      | cons y E ih =>
        have hn' : y.1 ∉ keysOf E ∧ (keysOf E).Nodup := by simpa [keysOf] using hn
        rw [eget_cons]
        rcases List.mem_cons.1 hx with rfl | hx
        · rw [if_pos hk]
        · rw [if_neg (by intro e; apply hn'.1; rw [e, ← hk]; exact List.mem_map.2 ⟨x, hx, rfl⟩)]
          exact ih hn'.2 hx
    rw [h] at this
    have : v = x.2 := by simpa using this
    simp [hk, hc, this]
  · simp [hk]
theorem sum_len {P : PP} (h : Ok P) : P.E.length ≤ 65536 := by
  have key : ∀ E : List (Int × MO), (∀ x ∈ E, 1 ≤ x.2.cost) → E.length ≤ sum E := by
    intro E
    induction E with
    | nil => intro _; simp [sum]
    | cons y E ih =>
      intro hE
      have h1 := ih (fun x hx => hE x (by simp [hx]))
      have h2 := hE y (by simp)
      simp only [sum, List.map_cons, List.sum_cons, List.length_cons] at h1 ⊢; omega
  have := key P.E (fun x hx => by have := h.sz x hx; omega)
  have := h.sum; have := h.q
  omega
theorem Ok.new_none {P : PP} (h : Ok P) : eget P.E (P.n : Int) = none := by
  cases he : eget P.E (P.n : Int) with
  | none => rfl
  | some v =>
    have := (h.keys _ (eget_memE he)).2
    simp at this
end Mo
end Go.Proofs.YtagmkkddjdlncaaDoor

/-! The model by definition: a part's operations keep it as it should be. No program in sight. -/
namespace Go.Proofs.YtagmkkddjdlncaaDoor
namespace Ca
structure Inv (C : Cp) : Prop where
  ok : Ok C
  cN : C.N ≤ 17592186044416
  sk : ∀ x ∈ C.E, 0 ≤ x.1 ∧ x.1 < 4160
  sn : (keysOf C.E).Nodup
/-- What a call that gives a handle does to the table. -/
structure Gives (C C' : Cp) (a : Int) (E : Int) : Prop where
  inv : Inv C'
  t : C'.T = C.T
  slots : ∀ x ∈ C'.E, x ∈ C.E ∨ x.2.a = a
  yes : E = 0 → C'.N = C.N + 1
  no : E ≠ 0 → C' = C
theorem Gives.refl {C : Cp} (h : Inv C) (a : Int) {E : Int} (hE : E ≠ 0) : Gives C C a E := ⟨h, rfl, fun x hx => .inl hx, fun e => absurd e hE, fun _ => rfl⟩
theorem putA_gives {C : Cp} (h : Inv C) (a : Int) (r : Nat) : Gives C (putA C a r).2 a (putA C a r).1.2 := by
  unfold putA
  split
  · exact Gives.refl h a (by simp)
  · rename_i hN
    split
    · exact Gives.refl h a (by simp)
    · rename_i k _ hf
      have hk := (Sh.frees_take hf).1
      rw [h.ok.a] at hk
      refine ⟨⟨⟨h.ok.t, Nat.le_add_left _ _, ?_, h.ok.b⟩, ?_, ?_, nodup_eset h.sn _ _⟩, rfl, ?_, fun _ => rfl, fun e => absurd rfl e⟩
      · simpa using h.ok.a
      · show C.N + 1 ≤ _; omega
      · intro x hx
        rcases mem_eset hx with rfl | ⟨hx, _⟩
        · constructor
          · simp
          · show ((0 + k : Nat) : Int) < 4160; omega
        · exact h.sk x hx
      · intro x hx
        rcases mem_eset hx with rfl | ⟨hx, _⟩
        · exact .inr rfl
        · exact .inl hx
theorem putB_gives {C : Cp} (h : Inv C) (a : Int) (r : Nat) : Gives C (putB C a r).2 a (putB C a r).1.2 := by
  unfold putB
  split
  · exact Gives.refl h a (by simp)
  · rename_i hN
    split
    · exact Gives.refl h a (by simp)
    · rename_i k _ hf
      have hk := (Sh.frees_take hf).1
      rw [h.ok.b] at hk
      refine ⟨⟨⟨h.ok.t, Nat.le_add_left _ _, h.ok.a, ?_⟩, ?_, ?_, nodup_eset h.sn _ _⟩, rfl, ?_, fun _ => rfl, fun e => absurd rfl e⟩
      · simpa using h.ok.b
      · show C.N + 1 ≤ _; omega
      · intro x hx
        rcases mem_eset hx with rfl | ⟨hx, _⟩
        · constructor
          · show (0 : Int) ≤ ((4096 + k : Nat) : Int); omega
          · show ((4096 + k : Nat) : Int) < 4160; omega
        · exact h.sk x hx
      · intro x hx
        rcases mem_eset hx with rfl | ⟨hx, _⟩
        · exact .inr rfl
        · exact .inl hx
theorem grant_gives {C : Cp} (h : Inv C) (a : Int) : Gives C (grant C a).2 a (grant C a).1.2 := by
  unfold grant
  split
  · exact Gives.refl h a (by simp)
  · exact putA_gives h a 7
theorem fnd_mem {C : Cp} {h : Nat} {y : Slt} (hf : fnd C h = some y) : ∃ k, (k, y) ∈ C.E := by
  unfold fnd at hf
  split at hf
  · split at hf
    · rename_i x hx
      split at hf
      · cases hf; exact ⟨_, eget_memE hx⟩
      · cases hf
    · cases hf
  · cases hf
/-- A handle that is restricted: its slot is another one's, of the same address. -/
theorem restrict_gives {C : Cp} (h : Inv C) (u : Nat) (x : Int) : ∃ a, (∀ y ∈ (restrict C u x).2.E, y ∈ C.E ∨ ∃ z ∈ C.E, y.2.a = z.2.a) ∧ Gives C (restrict C u x).2 a (restrict C u x).1.2 := by
  unfold restrict
  cases hf : fnd C u with
  | none => exact ⟨0, fun y hy => .inl hy, Gives.refl h 0 (by simp)⟩
  | some y =>
    obtain ⟨k, hk⟩ := fnd_mem hf
    dsimp only
    split
    · exact ⟨0, fun y hy => .inl hy, Gives.refl h 0 (by simp)⟩
    · split
      · have hg := putB_gives h y.a x.toNat
        refine ⟨y.a, fun z hz => ?_, hg⟩
        rcases hg.slots z hz with h1 | h1
        · exact .inl h1
        · exact .inr ⟨_, hk, h1⟩
      · exact ⟨0, fun y hy => .inl hy, Gives.refl h 0 (by simp)⟩
theorem giveS_len (S : List Bool) (k : Int) : (Sh.giveS S k).length = S.length := by unfold Sh.giveS; split <;> simp
theorem keysOf_mem {α : Type} {E : List (Int × α)} {x : Int × α} (h : x ∈ E) : x.1 ∈ keysOf E := List.mem_map.2 ⟨x, h, rfl⟩
theorem mem_nodup {α : Type} {E : List (Int × α)} (hn : (keysOf E).Nodup) {x : Int × α} (hx : x ∈ E) : eget E x.1 = some x.2 := by
  induction E with
  | nil => simp at hx
  | cons y E ih =>
    have hn' : y.1 ∉ keysOf E ∧ (keysOf E).Nodup := by simpa [keysOf] using hn
    rw [eget_cons]
    rcases List.mem_cons.1 hx with rfl | hx
    · rw [if_pos rfl]
    · rw [if_neg (fun e => hn'.1 (by rw [e]; exact keysOf_mem hx))]
      exact ih hn'.2 hx
theorem revAt_inv {C : Cp} (h : Inv C) (a : Int) (k : Nat) : Inv (revAt C a k) ∧ (revAt C a k).T = C.T ∧ (revAt C a k).N = C.N ∧ (∀ x ∈ (revAt C a k).E, x ∈ C.E ∧ (x.1 = (k : Int) → x.2.a ≠ a)) := by
  unfold revAt
  cases hx : eget C.E (k : Int) with
  | none =>
    refine ⟨h, rfl, rfl, fun x hx' => ⟨hx', fun e => ?_⟩⟩
    have := mem_nodup h.sn hx'
    rw [e, hx] at this; cases this
  | some y =>
    dsimp only
    split
    · rename_i ha
      have hE : ∀ x ∈ edel C.E (k : Int), x ∈ C.E ∧ (x.1 = (k : Int) → x.2.a ≠ a) := fun x hx' => ⟨(mem_edel.1 hx').1, fun e => absurd e (mem_edel.1 hx').2⟩
      split
      · exact ⟨⟨⟨h.ok.t, h.ok.n, by rw [giveS_len]; exact h.ok.a, h.ok.b⟩, h.cN, fun x hx' => h.sk x (hE x hx').1, nodup_edel h.sn _⟩, rfl, rfl, hE⟩
      · exact ⟨⟨⟨h.ok.t, h.ok.n, h.ok.a, by rw [giveS_len]; exact h.ok.b⟩, h.cN, fun x hx' => h.sk x (hE x hx').1, nodup_edel h.sn _⟩, rfl, rfl, hE⟩
    · rename_i ha
      refine ⟨h, rfl, rfl, fun x hx' => ⟨hx', fun e => ?_⟩⟩
      have := mem_nodup h.sn hx'
      rw [e, hx] at this
      cases this
      exact ha
theorem revTo_inv {C : Cp} (h : Inv C) (a : Int) : ∀ k : Nat, Inv (revTo C a k) ∧ (revTo C a k).T = C.T ∧ (revTo C a k).N = C.N ∧ (∀ x ∈ (revTo C a k).E, x ∈ C.E ∧ (x.1 < (k : Int) → x.2.a ≠ a))
  | 0 => ⟨h, rfl, rfl, fun x hx => ⟨hx, fun e => by have := (h.sk x hx).1; omega⟩⟩
  | k + 1 => by
    obtain ⟨h1, h2, h3, h4⟩ := revTo_inv h a k
    obtain ⟨g1, g2, g3, g4⟩ := revAt_inv h1 a k
    refine ⟨g1, g2.trans h2, g3.trans h3, fun x hx => ?_⟩
    obtain ⟨m1, m2⟩ := g4 x hx
    obtain ⟨m3, m4⟩ := h4 x m1
    refine ⟨m3, fun e => ?_⟩
    by_cases hk : x.1 = (k : Int)
    · exact m2 hk
    · exact m4 (by omega)
theorem revoke_inv {C : Cp} (h : Inv C) (a : Int) : Inv (revoke C a) ∧ (revoke C a).T = C.T ∧ (revoke C a).N = C.N ∧ (∀ x ∈ (revoke C a).E, x ∈ C.E ∧ x.2.a ≠ a) := by
  obtain ⟨h1, h2, h3, h4⟩ := revTo_inv h a 4160
  exact ⟨h1, h2, h3, fun x hx => ⟨(h4 x hx).1, (h4 x hx).2 (h1.sk x hx).2⟩⟩
theorem new_inv {T N : Nat} (hT : T < 8) (h1 : 1 ≤ N) (h2 : N ≤ 17592186044416) : Inv (new T N) := by
  unfold new
  exact ⟨⟨hT, h1, List.length_replicate, List.length_replicate⟩, h2, fun x hx => by simp at hx, by simp [keysOf]⟩
end Ca
namespace Mo
theorem Ok.inv {P : PP} (h : Ok P) : Ca.Inv P.C := ⟨h.ca, h.cN, h.sk, h.sn⟩
theorem eget_eset_some {E : List (Int × MO)} {k j : Int} {o : MO} (h : (eget E j).isSome = true) : (eget (eset E k o) j).isSome = true := by
  rw [eget_eset]
  split
  · rfl
  · exact h
theorem Ok.make {P : PP} (h : Ok P) (m : Int) : Ok (Mo.mk P m).2 ∧ (Mo.mk P m).2.C.T = P.C.T ∧ (Mo.mk P m).2.k = P.k := by
  unfold Mo.mk
  have hg := Ca.grant_gives h.inv P.n
  split
  · exact ⟨h, rfl, rfl⟩
  · rename_i h0
    split
    · exact ⟨h, rfl, rfl⟩
    · rename_i hq
      have hr := Cl.charge_ne h0
      have hcr := Cl.charge_range hr
      split
      · rename_i hE
        have hN := hg.yes hE
        refine ⟨{ h with
          ca := hg.inv.ok
          cn := ?_
          cN := hg.inv.cN
          sum := ?_
          keys := ?_
          nd := nodup_eset h.nd _ _
          sz := ?_
          slots := ?_
          sk := hg.inv.sk
          sn := hg.inv.sn }, hg.t, rfl⟩
        · show P.n + 1 < (Ca.grant P.C P.n).2.N
          rw [hN]; have := h.cn; omega
        · show Mo.sum (eset P.E P.n _) ≤ P.q
          rw [eset_none' h.new_none, sum_append]
          simp only [Mo.sum, List.map_cons, List.map_nil, List.sum_cons, List.sum_nil] at hq ⊢
          omega
        · intro x hx
          show 0 ≤ x.1 ∧ x.1 < ((P.n + 1 : Nat) : Int)
          rcases mem_eset hx with rfl | ⟨hx, _⟩
          · constructor
            · simp
            · show (P.n : Int) < _; omega
          · have := h.keys x hx; omega
        · intro x hx
          rcases mem_eset hx with rfl | ⟨hx, _⟩
          · simp only [List.length_replicate]; omega
          · exact h.sz x hx
        · intro x hx
          show (eget (eset P.E P.n _) x.2.a).isSome = true
          rcases hg.slots x hx with h1 | h1
          · exact eget_eset_some (h.slots x h1)
          · rw [h1, eget_eset, if_pos rfl]; rfl
      · rename_i hE
        have := hg.no hE
        rw [this]
        exact ⟨h, rfl, rfl⟩
theorem Ok.drop {P : PP} (h : Ok P) (a : Int) : Ok (drop P a) ∧ (drop P a).C.T = P.C.T ∧ (drop P a).k = P.k := by
  obtain ⟨g1, g2, g3, g4⟩ := Ca.revoke_inv h.inv a
  unfold Mo.drop
  generalize Ca.revoke P.C a = C' at *
  refine ⟨{ h with
    ca := g1.ok
    cn := by show P.n < C'.N; rw [g3]; exact h.cn
    cN := g1.cN
    sum := Nat.le_trans (sum_edel_le _ _) h.sum
    keys := fun x hx => h.keys x (mem_edel.1 hx).1
    nd := nodup_edel h.nd _
    sz := fun x hx => h.sz x (mem_edel.1 hx).1
    slots := fun x hx => ?_
    sk := g1.sk
    sn := g1.sn }, g2, rfl⟩
  show (eget (edel P.E a) x.2.a).isSome = true
  rw [eget_edel, if_neg (g4 x hx).2]
  exact h.slots x (g4 x hx).1
/-- An object is another one at its key, of the same cost. -/
theorem Ok.set {P : PP} (h : Ok P) {k : Int} {o : MO} (ho : eget P.E k = some o) (l : Bs) (h1 : 1 ≤ l.length) (h2 : l.length ≤ o.cost) : Ok { P with E := eset P.E k ⟨l, o.cost⟩ } := by
  have hm := eget_memE ho
  refine { h with
    sum := ?_
    keys := ?_
    nd := nodup_eset h.nd _ _
    sz := ?_
    slots := fun x hx => eget_eset_some (h.slots x hx) }
  · show Mo.sum (eset P.E k _) ≤ P.q
    rw [sum_eset_same (w := ⟨l, o.cost⟩) h.nd ho rfl]; exact h.sum
  · intro x hx
    rcases mem_eset hx with rfl | ⟨hx, _⟩
    · exact h.keys (k, o) hm
    · exact h.keys x hx
  · intro x hx
    rcases mem_eset hx with rfl | ⟨hx, _⟩
    · exact ⟨h1, h2, (h.sz _ hm).2.2⟩
    · exact h.sz x hx
theorem resz_len (l : Bs) (m : Nat) : (resz l m).length = m := by
  unfold resz; rw [bput_length]
  · simp
  · simp; omega
/-- .. as a part's Find tells. -/
theorem Ok.fnd' {P : PP} (ok : Ok P) {h : Nat} {r : Int} (he : (Ca.Fnd P.C h r).2 = 0) : ∃ o, eget P.E (Ca.Fnd P.C h r).1 = some o := by
  unfold Ca.Fnd at he ⊢
  cases hf : Ca.fnd P.C h with
  | none => rw [hf] at he; simp at he
  | some y =>
    obtain ⟨k, hk⟩ := Ca.fnd_mem hf
    rw [hf] at he
    dsimp only at he ⊢
    split at he
    · rename_i h1
      rw [if_pos h1]
      split at he
      · rename_i h2
        rw [if_pos h2]
        exact Option.isSome_iff_exists.1 (ok.slots _ hk)
      · simp at he
    · simp at he
theorem Ok.realloc {P : PP} (h : Ok P) (u : Nat) (m : Int) : Ok (realloc P u m).2 ∧ (realloc P u m).2.C.T = P.C.T ∧ (realloc P u m).2.k = P.k := by
  unfold Mo.realloc
  split
  · exact ⟨h, rfl, rfl⟩
  · rename_i he
    obtain ⟨o, ho⟩ := h.fnd' (by simpa using he)
    have hob : obj P (Ca.Fnd P.C u 4).1 = o := by unfold obj; rw [ho]; rfl
    rw [hob]
    split
    · rename_i hin
      have hm : ¬ (m < 1 ∨ 8192 < m) := by
        intro hx
        have : Cl.kind m = -1 := by unfold Cl.kind; rw [if_pos hx]
        omega
      have hcr := Cl.charge_range hm
      refine ⟨h.set ho _ ?_ ?_, rfl, rfl⟩
      · rw [resz_len]; omega
      · rw [resz_len]; omega
    · have hk := h.make m
      split
      · exact hk
      · rename_i hE
        have hE' : (Mo.mk P m).1.2 = 0 := by simpa using hE
        have hform : ∃ c, eget (Mo.mk P m).2.E P.n = some ⟨List.replicate m.toNat 0, c⟩ ∧ c = (Cl.charge m).toNat ∧ 1 ≤ m ∧ m ≤ 8192 := by
          unfold Mo.mk at hE' ⊢
          split at hE'
          · simp at hE'
          · rename_i h0
            rw [if_neg h0]
            have hr := Cl.charge_ne h0
            split at hE'
            · simp at hE'
            · rename_i hq
              rw [if_neg hq]
              split at hE'
              · rename_i hG
                rw [if_pos hG]
                exact ⟨_, by rw [eget_eset, if_pos rfl], rfl, by omega, by omega⟩
              · rename_i hG
                exact absurd hE' hG
        obtain ⟨c, hc1, hc2, hc3, hc4⟩ := hform
        have hcr := Cl.charge_range (n := m) (by omega)
        have h2 := hk.1.set hc1 (resz o.bs m.toNat) (by rw [resz_len]; omega) (by rw [resz_len]; simp only; omega)
        have h3 := h2.drop (Ca.Fnd P.C u 4).1
        rw [hc2] at h3
        exact ⟨h3.1, h3.2.1.trans hk.2.1, h3.2.2.trans hk.2.2⟩
theorem Ok.pdo {P : PP} (h : Ok P) (kind n m : Int) (u : Nat) (d : Bs) : Ok (pdo P kind n m u d).2 ∧ (pdo P kind n m u d).2.C.T = P.C.T ∧ (pdo P kind n m u d).2.k = P.k := by
  unfold Mo.pdo
  split
  · exact h.make n
  split
  · exact h.make _
  split
  · dsimp only
    split
    · exact h.drop _
    · exact ⟨h, rfl, rfl⟩
  split
  · exact h.realloc u n
  split
  · exact ⟨h, rfl, rfl⟩
  split
  · exact ⟨h, rfl, rfl⟩
  split
  · dsimp only
    split
    · rename_i he
      have hs : (Ca.Fnd P.C u 2).2 = 0 ∧ 0 ≤ n ∧ n ≤ (obj P (Ca.Fnd P.C u 2).1).bs.length ∧ (d.length : Int) ≤ (obj P (Ca.Fnd P.C u 2).1).bs.length - n := by
        unfold spanE at he
        split at he
        · rename_i h1; exact absurd he h1
        · rename_i h1
          split at he
          · rename_i h2
            exact ⟨by omega, h2.1, h2.2.2.1, h2.2.2.2⟩
          · simp at he
      obtain ⟨o, ho⟩ := h.fnd' hs.1
      have hob : obj P (Ca.Fnd P.C u 2).1 = o := by unfold obj; rw [ho]; rfl
      unfold write
      rw [hob] at hs ⊢
      have hsz := h.sz _ (eget_memE ho)
      simp only at hsz
      have hl : (bput o.bs n.toNat d).length = o.bs.length := bput_length _ _ _ (by omega)
      exact ⟨h.set ho _ (by rw [hl]; omega) (by rw [hl]; omega), rfl, rfl⟩
    · exact ⟨h, rfl, rfl⟩
  split
  · obtain ⟨a, hs, hg⟩ := Ca.restrict_gives h.inv u n
    by_cases hE : (Ca.restrict P.C u n).1.2 = 0
    · have hN := hg.yes hE
      refine ⟨{ h with
        ca := hg.inv.ok
        cn := by show P.n < (Ca.restrict P.C u n).2.N; rw [hN]; have := h.cn; omega
        cN := hg.inv.cN
        slots := fun x hx => ?_
        sk := hg.inv.sk
        sn := hg.inv.sn }, hg.t, rfl⟩
      rcases hs x hx with h1 | ⟨z, hz, h1⟩
      · exact h.slots x h1
      · rw [h1]; exact h.slots z hz
    · have := hg.no hE
      rw [this]
      exact ⟨h, rfl, rfl⟩
  · exact ⟨h, rfl, rfl⟩
end Mo
end Go.Proofs.YtagmkkddjdlncaaDoor

/-! The model by definition: tenants' parts together. No program in sight. -/
namespace Go.Proofs.YtagmkkddjdlncaaDoor
namespace Mo
/-- A model: pages, colours, the parts, the serials. -/
structure MM where
  Pg : Nat
  C : Nat
  T : Nat → Option PP
  s : Nat → Nat
def new (Pg C : Nat) : MM := ⟨Pg, C, fun _ => none, fun _ => 1⟩
def kof (M : MM) (i : Nat) : Nat := match M.T i with | some P => P.k | none => 0
def freeTo (M : MM) : Nat → Int
  | 0 => M.C
  | i + 1 => freeTo M i - kof M i
def free (M : MM) : Int := freeTo M 8
def room (M : MM) (c : Int) : Int := ((c.toNat * (M.Pg / M.C) : Nat) : Int)
def upd {α : Type} (f : Nat → α) (i : Nat) (x : α) : Nat → α := fun j => if j = i then x else f j
theorem upd_same {α : Type} (f : Nat → α) (i : Nat) (x : α) : upd f i x i = x := by simp [upd]
theorem upd_other {α : Type} (f : Nat → α) {i j : Nat} (x : α) (h : j ≠ i) : upd f i x j = f j := by simp [upd, h]
def newPart (i n c q : Nat) : PP := ⟨Ca.new i n, c, q, q, [], 0⟩
def create (M : MM) (i : Nat) (c q : Int) : Int × MM :=
  if (M.T i).isSome then (7, M)
  else if may M.C c q = false then (2, M)
  else if Dem.fits q (room M c) = false then (8, M)
  else if free M < c then (9, M)
  else (0, { M with T := upd M.T i (some (newPart i (M.s i) c.toNat q.toNat)) })
def resize (M : MM) (i : Nat) (c q : Int) : Int × MM :=
  match M.T i with
  | none => (6, M)
  | some P =>
    if may M.C c q = false then (2, M)
    else if q < sum P.E then (3, M)
    else if Dem.fits (nxt P q.toNat) (room M c) = false then (8, M)
    else if free M < c - P.k then (9, M)
    else (0, { M with T := upd M.T i (some { P with k := c.toNat, q := q.toNat, t := nxt P q.toNat }) })
def destroy (M : MM) (i : Nat) : Int × MM :=
  match M.T i with
  | none => (6, M)
  | some P => (0, { M with T := upd M.T i none, s := upd M.s i P.C.N })
def charged (M : MM) (i : Nat) : Nat := match M.T i with | some P => sum P.E | none => 0
/-- An operation that is one: what it comes to (without the charge), the model behind it. -/
def act (M : MM) (i : Nat) (kind n m : Int) (h : Nat) (d : Bs) : XAns × MM :=
  if kind = 1 then (⟨(create M i m n).1, 0, 0, 0, bs [], 0⟩, (create M i m n).2)
  else if kind = 2 then (⟨(resize M i m n).1, 0, 0, 0, bs [], 0⟩, (resize M i m n).2)
  else if kind = 3 then (⟨(destroy M i).1, 0, 0, 0, bs [], 0⟩, (destroy M i).2)
  else match M.T i with
    | none => (⟨6, 0, 0, 0, bs [], 0⟩, M)
    | some P => ((pdo P kind n m h d).1, { M with T := upd M.T i (some (pdo P kind n m h d).2) })
def mdo (M : MM) (o : XOp) : XAns × MM :=
  if Op1.chk o ≠ 0 then (⟨Op1.chk o, 0, 0, 0, bs [], 0⟩, M)
  else ({ (act M o.tenant.toNat o.kind o.n o.m o.handle.toNat o.data.data.toList).1 with charged := charged (act M o.tenant.toNat o.kind o.n o.m o.handle.toNat o.data.data.toList).2 o.tenant.toNat },
    (act M o.tenant.toNat o.kind o.n o.m o.handle.toNat o.data.data.toList).2)
structure MOk (M : MM) : Prop where
  c : 1 ≤ M.C ∧ M.C ≤ 32
  p : 1 ≤ M.Pg ∧ M.Pg ≤ 4096
  part : ∀ i, i < 8 → ∀ P, M.T i = some P → Ok P ∧ P.C.T = i
  s : ∀ i, i < 8 → 1 ≤ M.s i ∧ M.s i ≤ 17592186044416
theorem MOk.new {Pg C : Nat} (h : cfg Pg C) : MOk (new Pg C) := by
  obtain ⟨h1, h2, h3, h4, _⟩ := h
  refine ⟨?_, ?_, fun i _ P h => by simp [Mo.new] at h, fun i _ => by simp [Mo.new]⟩
  · simp only [Mo.new]; omega
  · simp only [Mo.new]; omega
theorem free_range {M : MM} (h : MOk M) : ∀ i, i ≤ 8 → freeTo M i ≤ M.C ∧ (M.C : Int) - 32 * i ≤ freeTo M i
  | 0, _ => by simp [freeTo]
  | i + 1, hi => by
    obtain ⟨h1, h2⟩ := free_range h i (by omega)
    have hk : kof M i ≤ 32 := by
      unfold kof
      split
      · rename_i P hP
        exact ((h.part i (by omega) P hP).1.k).2
      · omega
    simp only [freeTo]
    constructor <;> omega
theorem MOk.upd {M : MM} (h : MOk M) {i : Nat} (hi : i < 8) {P : Option PP} (hP : ∀ Q, P = some Q → Ok Q ∧ Q.C.T = i) {n : Nat} (hn : 1 ≤ n ∧ n ≤ 17592186044416) : MOk { M with T := Mo.upd M.T i P, s := Mo.upd M.s i n } := by
  refine ⟨h.c, h.p, fun j hj Q hQ => ?_, fun j hj => ?_⟩
  · simp only [Mo.upd] at hQ
    split at hQ
    · rename_i e; subst e; exact hP Q hQ
    · exact h.part j hj Q hQ
  · simp only [Mo.upd]
    split
    · exact hn
    · exact h.s j hj
theorem upd_self {α : Type} (f : Nat → α) (i : Nat) : upd f i (f i) = f := by
  funext j; unfold upd; split
  · rename_i e; rw [e]
  · rfl
theorem MOk.set {M : MM} (h : MOk M) {i : Nat} (hi : i < 8) {Q : PP} (hQ : Ok Q ∧ Q.C.T = i) : MOk { M with T := Mo.upd M.T i (some Q) } := by
  have := h.upd hi (P := some Q) (fun R e => by cases e; exact hQ) (h.s i hi)
  rwa [upd_self] at this
theorem may_iff {C : Nat} {c q : Int} : may C c q = true ↔ (1 ≤ q ∧ q ≤ 65536) ∧ 1 ≤ c ∧ c ≤ C := by unfold may; simp
theorem newPart_ok {i n c q : Nat} (hi : i < 8) (h1 : 1 ≤ n) (h2 : n ≤ 17592186044416) (hc : 1 ≤ c ∧ c ≤ 32) (hq : 1 ≤ q ∧ q ≤ 65536) : Ok (newPart i n c q) ∧ (newPart i n c q).C.T = i := by
  have hv := Ca.new_inv hi h1 h2
  unfold newPart
  exact ⟨⟨hv.ok, by show 0 < n; omega, h2, hc, hq, hq.2, by simp [Mo.sum], fun x hx => by simp at hx, by simp [keysOf], fun x hx => by simp at hx, fun x hx => (List.not_mem_nil (show x ∈ ([] : List (Int × Ca.Slt)) from hx)).elim, hv.sk, hv.sn⟩, rfl⟩
theorem MOk.create {M : MM} (h : MOk M) {i : Nat} (hi : i < 8) (c q : Int) : MOk (create M i c q).2 := by
  unfold Mo.create
  split
  · exact h
  split
  · exact h
  rename_i hm
  split
  · exact h
  split
  · exact h
  have := may_iff.1 (by simpa using hm)
  have hc := h.c
  exact h.set hi (newPart_ok hi (h.s i hi).1 (h.s i hi).2 (by omega) (by omega))
theorem MOk.resize {M : MM} (h : MOk M) {i : Nat} (hi : i < 8) (c q : Int) : MOk (resize M i c q).2 := by
  unfold Mo.resize
  cases hP : M.T i with
  | none => exact h
  | some P =>
    dsimp only
    split
    · exact h
    rename_i hm
    split
    · exact h
    rename_i hs
    split
    · exact h
    split
    · exact h
    have := may_iff.1 (by simpa using hm)
    have hc := h.c
    obtain ⟨o, ht⟩ := h.part i hi P hP
    refine h.set hi ⟨{ o with k := ?_, q := ?_, t := ?_, sum := ?_ }, ht⟩
    · simp only; omega
    · simp only; omega
    · simp only
      have h1 : q.toNat ≤ 65536 := by omega
      have h2 := o.t
      unfold nxt
      split
      · exact h1
      · exact Nat.max_le.2 ⟨h1, h2⟩
    · simp only; omega
theorem MOk.destroy {M : MM} (h : MOk M) {i : Nat} (hi : i < 8) : MOk (destroy M i).2 := by
  unfold Mo.destroy
  cases hP : M.T i with
  | none => exact h
  | some P =>
    obtain ⟨o, ht⟩ := h.part i hi P hP
    exact h.upd hi (fun Q e => by cases e) ⟨by have := o.ca.n; exact this, o.cN⟩
theorem MOk.act {M : MM} (h : MOk M) {i : Nat} (hi : i < 8) (kind n m : Int) (u : Nat) (d : Bs) : MOk (act M i kind n m u d).2 := by
  unfold Mo.act
  split
  · exact h.create hi _ _
  split
  · exact h.resize hi _ _
  split
  · exact h.destroy hi
  cases hP : M.T i with
  | none => exact h
  | some P =>
    obtain ⟨o, ht⟩ := h.part i hi P hP
    have hp := o.pdo kind n m u d
    exact h.set hi ⟨hp.1, hp.2.1.trans ht⟩
theorem chk_ok {o : XOp} (h : Op1.chk o = 0) : (1 ≤ o.kind ∧ o.kind ≤ 11) ∧ (0 ≤ o.tenant ∧ o.tenant < 8) ∧ o.data.size ≤ 8192 := by
  unfold Op1.chk at h
  split at h
  · simp at h
  · split at h
    · simp at h
    · omega
theorem MOk.mdo {M : MM} (h : MOk M) (o : XOp) : MOk (mdo M o).2 := by
  unfold Mo.mdo
  split
  · exact h
  · rename_i hc
    have := chk_ok (o := o) (by simpa using hc)
    exact h.act (by omega) _ _ _ _ _
end Mo
end Go.Proofs.YtagmkkddjdlncaaDoor
