/- The model by definition: a part and its operations, what holds of it. No program in sight. -/
import Derived.Test.YtagmkkddjdlncaaDoorLineP
import Derived.Test.YtagmkkddjdlncaaDoorByt
import Derived.Test.YtagmkkddjdlncaaDoorCaE
import Derived.Test.YtagmkkddjdlncaaDoorDem
import Derived.Test.YtagmkkddjdlncaaDoorOpB
set_option linter.unusedVariables false
set_option linter.unusedSimpArgs false
namespace Go.Proofs.YtagmkkddjdlncaaDoor
section
variable {α : Type}
theorem eget_memE {E : List (Int × α)} {k : Int} {v : α} (h : eget E k = some v) : (k, v) ∈ E := by
  unfold eget at h
  cases hf : E.find? (fun p => p.1 == k) with
  | none => rw [hf] at h; cases h
  | some p =>
    rw [hf] at h
    have h1 := List.find?_some hf
    have h2 := List.mem_of_find?_eq_some hf
    obtain ⟨p1, p2⟩ := p
    simp only [Option.map_some, Option.some.injEq] at h
    simp only [beq_iff_eq] at h1
    subst h1 h
    exact h2
theorem mem_eset {E : List (Int × α)} {k : Int} {v : α} {x : Int × α} (h : x ∈ eset E k v) : x = (k, v) ∨ (x ∈ E ∧ x.1 ≠ k) := by
  unfold eset at h
  split at h
  · obtain ⟨p, hp, he⟩ := List.mem_map.1 h
    by_cases hk : p.1 = k
    · left; rw [← he]; simp [hk]
    · right
      have : x = p := by rw [← he]; simp [hk]
      subst this
      exact ⟨hp, hk⟩
  · rename_i hn
    rcases List.mem_append.1 h with h | h
    · right
      refine ⟨h, fun e => hn ?_⟩
      rw [List.find?_isSome]
      exact ⟨x, h, by simp [e]⟩
    · left; simpa using h
theorem mem_edel {E : List (Int × α)} {k : Int} {x : Int × α} : x ∈ edel E k ↔ x ∈ E ∧ x.1 ≠ k := by
  unfold edel
  rw [List.mem_filter]
  simp
theorem eset_none' {E : List (Int × α)} {k : Int} {v : α} (h : eget E k = none) : eset E k v = E ++ [(k, v)] := by
  unfold eset
  have : (E.find? (fun p => p.1 == k)).isSome = false := by rw [← eget_isSome, h]; rfl
  rw [this]; rfl
end
namespace Cl
theorem charge_zero {n : Int} (h : n < 1 ∨ 8192 < n) : charge n = 0 := by
  unfold charge kind; rw [if_pos h]; rfl
theorem kind_range {n : Int} (h : ¬ (n < 1 ∨ 8192 < n)) : 0 ≤ kind n ∧ kind n < 24 := by
  unfold kind; rw [if_neg h]
  repeat' split
  all_goals omega
theorem charge_range {n : Int} (h : ¬ (n < 1 ∨ 8192 < n)) : n ≤ charge n ∧ 16 ≤ charge n ∧ charge n ≤ 8192 := by
  have hk := kind_range h
  unfold charge unit
  rw [if_pos hk]
  unfold kind at hk ⊢
  rw [if_neg h] at hk ⊢
  by_cases h1 : 256 < n
  · rw [if_pos h1] at hk ⊢
    have : ¬ 8 + (n - 1) / 512 < 8 := by omega
    rw [if_neg this]
    omega
  · rw [if_neg h1] at hk ⊢
    repeat' split
    all_goals simp_all [sm]
    all_goals omega
theorem charge_ne {n : Int} (h : charge n ≠ 0) : ¬ (n < 1 ∨ 8192 < n) := fun q => h (charge_zero q)
end Cl
namespace Mo
/-- An object: its bytes, what they cost. -/
structure MO where
  bs : Bs
  cost : Nat
/-- A tenant's part: handles, colours, quota, peak, objects, how many there were. -/
structure PP where
  C : Ca.Cp
  k : Nat
  q : Nat
  t : Nat
  E : List (Int × MO)
  n : Nat
def sum (E : List (Int × MO)) : Nat := (E.map (fun x => x.2.cost)).sum
def nxt (P : PP) (z : Nat) : Nat := if P.E.length = 0 then z else max z P.t
def obj (P : PP) (a : Int) : MO := (eget P.E a).getD ⟨[], 0⟩
def mk (P : PP) (m : Int) : (Nat × Int) × PP :=
  if Cl.charge m = 0 then ((0, 2), P)
  else if (P.q : Int) < sum P.E + Cl.charge m then ((0, 3), P)
  else if (Ca.grant P.C P.n).1.2 = 0 then ((Ca.grant P.C P.n).1, { P with C := (Ca.grant P.C P.n).2, E := eset P.E P.n ⟨List.replicate m.toNat 0, (Cl.charge m).toNat⟩, n := P.n + 1 })
  else ((Ca.grant P.C P.n).1, { P with C := (Ca.grant P.C P.n).2 })
def drop (P : PP) (a : Int) : PP := { P with C := Ca.revoke P.C a, E := edel P.E a }
def resz (l : Bs) (m : Nat) : Bs := bput (List.replicate m 0) 0 (l.take m)
def realloc (P : PP) (h : Nat) (m : Int) : (Nat × Int) × PP :=
  if (Ca.Fnd P.C h 4).2 ≠ 0 then ((0, (Ca.Fnd P.C h 4).2), P)
  else if 0 ≤ Cl.kind m ∧ Cl.charge m ≤ (obj P (Ca.Fnd P.C h 4).1).cost then
    ((h, 0), { P with E := eset P.E (Ca.Fnd P.C h 4).1 ⟨resz (obj P (Ca.Fnd P.C h 4).1).bs m.toNat, (obj P (Ca.Fnd P.C h 4).1).cost⟩ })
  else if (mk P m).1.2 ≠ 0 then ((0, (mk P m).1.2), (mk P m).2)
  else (((mk P m).1.1, 0), drop { (mk P m).2 with E := eset (mk P m).2.E P.n ⟨resz (obj P (Ca.Fnd P.C h 4).1).bs m.toNat, (Cl.charge m).toNat⟩ } (Ca.Fnd P.C h 4).1)
/-- An error where bytes of an object are asked for; 0: they are there. -/
def spanE (P : PP) (h : Nat) (r from' n : Int) : Int :=
  if (Ca.Fnd P.C h r).2 ≠ 0 then (Ca.Fnd P.C h r).2
  else if 0 ≤ from' ∧ 0 ≤ n ∧ from' ≤ (obj P (Ca.Fnd P.C h r).1).bs.length ∧ n ≤ (obj P (Ca.Fnd P.C h r).1).bs.length - from' then 0 else 4
def spanB (P : PP) (h : Nat) (r from' n : Int) : Bs := ((obj P (Ca.Fnd P.C h r).1).bs.drop from'.toNat).take n.toNat
def write (P : PP) (h : Nat) (r from' : Int) (d : Bs) : PP :=
  { P with E := eset P.E (Ca.Fnd P.C h r).1 ⟨bput (obj P (Ca.Fnd P.C h r).1).bs from'.toNat d, (obj P (Ca.Fnd P.C h r).1).cost⟩ }
/-- A tenant's operation: what it comes to (without the charge), and the part behind it. -/
def pdo (P : PP) (kind n m : Int) (h : Nat) (d : Bs) : XAns × PP :=
  if kind = 4 then (⟨(mk P n).1.2, (mk P n).1.1, 0, 0, bs [], 0⟩, (mk P n).2)
  else if kind = 5 then (⟨(mk P (Op1.asks n m)).1.2, (mk P (Op1.asks n m)).1.1, 0, 0, bs [], 0⟩, (mk P (Op1.asks n m)).2)
  else if kind = 6 then (⟨(Ca.Fnd P.C h 4).2, 0, 0, 0, bs [], 0⟩, if (Ca.Fnd P.C h 4).2 = 0 then drop P (Ca.Fnd P.C h 4).1 else P)
  else if kind = 7 then (⟨(realloc P h n).1.2, (realloc P h n).1.1, 0, 0, bs [], 0⟩, (realloc P h n).2)
  else if kind = 8 then (⟨(Ca.Fnd P.C h 0).2, 0, 0, if (Ca.Fnd P.C h 0).2 = 0 then (obj P (Ca.Fnd P.C h 0).1).cost else 0, bs [], 0⟩, P)
  else if kind = 9 then (⟨spanE P h 1 n m, 0, 0, 0, if spanE P h 1 n m = 0 then bs (spanB P h 1 n m) else bs [], 0⟩, P)
  else if kind = 10 then (⟨spanE P h 2 n d.length, 0, 0, 0, bs [], 0⟩, if spanE P h 2 n d.length = 0 then write P h 2 n d else P)
  else if kind = 11 then (⟨(Ca.restrict P.C h n).1.2, (Ca.restrict P.C h n).1.1, 0, 0, bs [], 0⟩, { P with C := (Ca.restrict P.C h n).2 })
  else (⟨0, 0, 0, 0, bs [], 0⟩, P)
/-- A part as it should be. -/
structure Ok (P : PP) : Prop where
  ca : Ca.Ok P.C
  cn : P.n < P.C.N
  cN : P.C.N ≤ 17592186044416
  k : 1 ≤ P.k ∧ P.k ≤ 32
  q : 1 ≤ P.q ∧ P.q ≤ 65536
  t : P.t ≤ 65536
  sum : sum P.E ≤ P.q
  keys : ∀ x ∈ P.E, 0 ≤ x.1 ∧ x.1 < P.n
  nd : (keysOf P.E).Nodup
  sz : ∀ x ∈ P.E, 1 ≤ x.2.bs.length ∧ x.2.bs.length ≤ x.2.cost ∧ x.2.cost ≤ 8192
  slots : ∀ x ∈ P.C.E, (eget P.E x.2.a).isSome = true
  sk : ∀ x ∈ P.C.E, 0 ≤ x.1 ∧ x.1 < 4160
  sn : (keysOf P.C.E).Nodup
theorem sum_append (A B : List (Int × MO)) : sum (A ++ B) = sum A + sum B := by simp [sum]
theorem sum_ge {E : List (Int × MO)} {x : Int × MO} (h : x ∈ E) : x.2.cost ≤ sum E := by
  induction E with
  | nil => simp at h
  | cons y E ih =>
    rcases List.mem_cons.1 h with rfl | h
    · simp [sum]
    · have := ih h; simp only [sum, List.map_cons, List.sum_cons] at this ⊢; omega
theorem sum_edel {E : List (Int × MO)} {k : Int} {v : MO} (hn : (keysOf E).Nodup) (h : eget E k = some v) : sum (edel E k) + v.cost = sum E := by
  induction E with
  | nil => simp [eget_nil] at h
  | cons y E ih =>
    rw [eget_cons] at h
    have hn' : y.1 ∉ keysOf E ∧ (keysOf E).Nodup := by simpa [keysOf] using hn
    by_cases hk : y.1 = k
    · rw [if_pos hk] at h
      have e : edel (y :: E) k = E := by
        unfold edel
        rw [List.filter_cons]
        have : (!(y.1 == k)) = false := by simp [hk]
        rw [this]
        simp only [Bool.false_eq_true, if_false]
        refine List.filter_eq_self.2 fun z hz => ?_
        have : z.1 ≠ k := by
          intro e; apply hn'.1; rw [hk, ← e]; exact List.mem_map.2 ⟨z, hz, rfl⟩
        simpa using this
      rw [e]
      have : y.2 = v := by simpa using h
      rw [← this]
      simp [sum, Nat.add_comm]
    · rw [if_neg hk] at h
      have e : edel (y :: E) k = y :: edel E k := by
        unfold edel
        rw [List.filter_cons]
        have : (!(y.1 == k)) = true := by simp [hk]
        rw [this]; rfl
      rw [e]
      have := ih hn'.2 h
      simp only [sum, List.map_cons, List.sum_cons] at this ⊢; omega
theorem sum_edel_le (E : List (Int × MO)) (k : Int) : sum (edel E k) ≤ sum E := by
  induction E with
  | nil => simp [edel, sum]
  | cons y E ih =>
    unfold edel at ih ⊢
    rw [List.filter_cons]
    split
    · simp only [sum, List.map_cons, List.sum_cons] at ih ⊢; omega
    · simp only [sum, List.map_cons, List.sum_cons] at ih ⊢; omega
theorem sum_eset_same {E : List (Int × MO)} {k : Int} {v w : MO} (hn : (keysOf E).Nodup) (h : eget E k = some v) (hc : w.cost = v.cost) : sum (eset E k w) = sum E := by
  have hs : (E.find? (fun p => p.1 == k)).isSome = true := by rw [← eget_isSome, h]; rfl
  unfold eset
  rw [if_pos hs]
  unfold sum
  rw [List.map_map]
  congr 1
  refine List.map_congr_left fun x hx => ?_
  simp only [Function.comp_apply]
  by_cases hk : x.1 = k
  · have : eget E k = some x.2 := by
      clear hs h
      induction E with
      | nil => simp at hx
      | cons y E ih =>
        have hn' : y.1 ∉ keysOf E ∧ (keysOf E).Nodup := by simpa [keysOf] using hn
        rw [eget_cons]
        rcases List.mem_cons.1 hx with rfl | hx
        · rw [if_pos hk]
        · rw [if_neg (by intro e; apply hn'.1; rw [e, ← hk]; exact List.mem_map.2 ⟨x, hx, rfl⟩)]
          exact ih hn'.2 hx
    rw [h] at this
    have : v = x.2 := by simpa using this
    simp [hk, hc, this]
  · simp [hk]
theorem sum_len {P : PP} (h : Ok P) : P.E.length ≤ 65536 := by
  have key : ∀ E : List (Int × MO), (∀ x ∈ E, 1 ≤ x.2.cost) → E.length ≤ sum E := by
    intro E
    induction E with
    | nil => intro _; simp [sum]
    | cons y E ih =>
      intro hE
      have h1 := ih (fun x hx => hE x (by simp [hx]))
      have h2 := hE y (by simp)
      simp only [sum, List.map_cons, List.sum_cons, List.length_cons] at h1 ⊢; omega
  have := key P.E (fun x hx => by have := h.sz x hx; omega)
  have := h.sum; have := h.q
  omega
theorem Ok.new_none {P : PP} (h : Ok P) : eget P.E (P.n : Int) = none := by
  cases he : eget P.E (P.n : Int) with
  | none => rfl
  | some v =>
    have := (h.keys _ (eget_memE he)).2
    simp at this
end Mo
end Go.Proofs.YtagmkkddjdlncaaDoor
