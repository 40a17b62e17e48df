/- The model by definition: tenants' parts together. No program in sight. -/
import Derived.Test.YtagmkkddjdlncaaDoorMoQ
import Derived.Test.YtagmkkddjdlncaaDoorMoB
import Derived.Test.YtagmkkddjdlncaaDoorOpA
set_option linter.unusedVariables false
set_option linter.unusedSimpArgs false
namespace Go.Proofs.YtagmkkddjdlncaaDoor
namespace Mo
/-- A model: pages, colours, the parts, the serials. -/
structure MM where
  Pg : Nat
  C : Nat
  T : Nat → Option PP
  s : Nat → Nat
def new (Pg C : Nat) : MM := ⟨Pg, C, fun _ => none, fun _ => 1⟩
def kof (M : MM) (i : Nat) : Nat := match M.T i with | some P => P.k | none => 0
def freeTo (M : MM) : Nat → Int
  | 0 => M.C
  | i + 1 => freeTo M i - kof M i
def free (M : MM) : Int := freeTo M 8
def room (M : MM) (c : Int) : Int := ((c.toNat * (M.Pg / M.C) : Nat) : Int)
def upd {α : Type} (f : Nat → α) (i : Nat) (x : α) : Nat → α := fun j => if j = i then x else f j
theorem upd_same {α : Type} (f : Nat → α) (i : Nat) (x : α) : upd f i x i = x := by simp [upd]
theorem upd_other {α : Type} (f : Nat → α) {i j : Nat} (x : α) (h : j ≠ i) : upd f i x j = f j := by simp [upd, h]
def newPart (i n c q : Nat) : PP := ⟨Ca.new i n, c, q, q, [], 0⟩
def create (M : MM) (i : Nat) (c q : Int) : Int × MM :=
  if (M.T i).isSome then (7, M)
  else if may M.C c q = false then (2, M)
  else if Dem.fits q (room M c) = false then (8, M)
  else if free M < c then (9, M)
  else (0, { M with T := upd M.T i (some (newPart i (M.s i) c.toNat q.toNat)) })
def resize (M : MM) (i : Nat) (c q : Int) : Int × MM :=
  match M.T i with
  | none => (6, M)
  | some P =>
    if may M.C c q = false then (2, M)
    else if q < sum P.E then (3, M)
    else if Dem.fits (nxt P q.toNat) (room M c) = false then (8, M)
    else if free M < c - P.k then (9, M)
    else (0, { M with T := upd M.T i (some { P with k := c.toNat, q := q.toNat, t := nxt P q.toNat }) })
def destroy (M : MM) (i : Nat) : Int × MM :=
  match M.T i with
  | none => (6, M)
  | some P => (0, { M with T := upd M.T i none, s := upd M.s i P.C.N })
def charged (M : MM) (i : Nat) : Nat := match M.T i with | some P => sum P.E | none => 0
/-- An operation that is one: what it comes to (without the charge), the model behind it. -/
def act (M : MM) (i : Nat) (kind n m : Int) (h : Nat) (d : Bs) : XAns × MM :=
  if kind = 1 then (⟨(create M i m n).1, 0, 0, 0, bs [], 0⟩, (create M i m n).2)
  else if kind = 2 then (⟨(resize M i m n).1, 0, 0, 0, bs [], 0⟩, (resize M i m n).2)
  else if kind = 3 then (⟨(destroy M i).1, 0, 0, 0, bs [], 0⟩, (destroy M i).2)
  else match M.T i with
    | none => (⟨6, 0, 0, 0, bs [], 0⟩, M)
    | some P => ((pdo P kind n m h d).1, { M with T := upd M.T i (some (pdo P kind n m h d).2) })
def mdo (M : MM) (o : XOp) : XAns × MM :=
  if Op1.chk o ≠ 0 then (⟨Op1.chk o, 0, 0, 0, bs [], 0⟩, M)
  else ({ (act M o.tenant.toNat o.kind o.n o.m o.handle.toNat o.data.data.toList).1 with charged := charged (act M o.tenant.toNat o.kind o.n o.m o.handle.toNat o.data.data.toList).2 o.tenant.toNat },
    (act M o.tenant.toNat o.kind o.n o.m o.handle.toNat o.data.data.toList).2)
structure MOk (M : MM) : Prop where
  c : 1 ≤ M.C ∧ M.C ≤ 32
  p : 1 ≤ M.Pg ∧ M.Pg ≤ 4096
  part : ∀ i, i < 8 → ∀ P, M.T i = some P → Ok P ∧ P.C.T = i
  s : ∀ i, i < 8 → 1 ≤ M.s i ∧ M.s i ≤ 17592186044416
theorem MOk.new {Pg C : Nat} (h : cfg Pg C) : MOk (new Pg C) := by
  obtain ⟨h1, h2, h3, h4, _⟩ := h
  refine ⟨?_, ?_, fun i _ P h => by simp [Mo.new] at h, fun i _ => by simp [Mo.new]⟩
  · simp only [Mo.new]; omega
  · simp only [Mo.new]; omega
theorem free_range {M : MM} (h : MOk M) : ∀ i, i ≤ 8 → freeTo M i ≤ M.C ∧ (M.C : Int) - 32 * i ≤ freeTo M i
  | 0, _ => by simp [freeTo]
  | i + 1, hi => by
    obtain ⟨h1, h2⟩ := free_range h i (by omega)
    have hk : kof M i ≤ 32 := by
      unfold kof
      split
      · rename_i P hP
        exact ((h.part i (by omega) P hP).1.k).2
      · omega
    simp only [freeTo]
    constructor <;> omega
theorem MOk.upd {M : MM} (h : MOk M) {i : Nat} (hi : i < 8) {P : Option PP} (hP : ∀ Q, P = some Q → Ok Q ∧ Q.C.T = i) {n : Nat} (hn : 1 ≤ n ∧ n ≤ 17592186044416) : MOk { M with T := Mo.upd M.T i P, s := Mo.upd M.s i n } := by
  refine ⟨h.c, h.p, fun j hj Q hQ => ?_, fun j hj => ?_⟩
  · simp only [Mo.upd] at hQ
    split at hQ
    · rename_i e; subst e; exact hP Q hQ
    · exact h.part j hj Q hQ
  · simp only [Mo.upd]
    split
    · exact hn
    · exact h.s j hj
theorem upd_self {α : Type} (f : Nat → α) (i : Nat) : upd f i (f i) = f := by
  funext j; unfold upd; split
  · rename_i e; rw [e]
  · rfl
theorem MOk.set {M : MM} (h : MOk M) {i : Nat} (hi : i < 8) {Q : PP} (hQ : Ok Q ∧ Q.C.T = i) : MOk { M with T := Mo.upd M.T i (some Q) } := by
  have := h.upd hi (P := some Q) (fun R e => by cases e; exact hQ) (h.s i hi)
  rwa [upd_self] at this
theorem may_iff {C : Nat} {c q : Int} : may C c q = true ↔ (1 ≤ q ∧ q ≤ 65536) ∧ 1 ≤ c ∧ c ≤ C := by unfold may; simp
theorem newPart_ok {i n c q : Nat} (hi : i < 8) (h1 : 1 ≤ n) (h2 : n ≤ 17592186044416) (hc : 1 ≤ c ∧ c ≤ 32) (hq : 1 ≤ q ∧ q ≤ 65536) : Ok (newPart i n c q) ∧ (newPart i n c q).C.T = i := by
  have hv := Ca.new_inv hi h1 h2
  unfold newPart
  exact ⟨⟨hv.ok, by show 0 < n; omega, h2, hc, hq, hq.2, by simp [Mo.sum], fun x hx => by simp at hx, by simp [keysOf], fun x hx => by simp at hx, fun x hx => (List.not_mem_nil (show x ∈ ([] : List (Int × Ca.Slt)) from hx)).elim, hv.sk, hv.sn⟩, rfl⟩
theorem MOk.create {M : MM} (h : MOk M) {i : Nat} (hi : i < 8) (c q : Int) : MOk (create M i c q).2 := by
  unfold Mo.create
  split
  · exact h
  split
  · exact h
  rename_i hm
  split
  · exact h
  split
  · exact h
  have := may_iff.1 (by simpa using hm)
  have hc := h.c
  exact h.set hi (newPart_ok hi (h.s i hi).1 (h.s i hi).2 (by omega) (by omega))
theorem MOk.resize {M : MM} (h : MOk M) {i : Nat} (hi : i < 8) (c q : Int) : MOk (resize M i c q).2 := by
  unfold Mo.resize
  cases hP : M.T i with
  | none => exact h
  | some P =>
    dsimp only
    split
    · exact h
    rename_i hm
    split
    · exact h
    rename_i hs
    split
    · exact h
    split
    · exact h
    have := may_iff.1 (by simpa using hm)
    have hc := h.c
    obtain ⟨o, ht⟩ := h.part i hi P hP
    refine h.set hi ⟨{ o with k := ?_, q := ?_, t := ?_, sum := ?_ }, ht⟩
    · simp only; omega
    · simp only; omega
    · simp only
      have h1 : q.toNat ≤ 65536 := by omega
      have h2 := o.t
      unfold nxt
      split
      · exact h1
      · exact Nat.max_le.2 ⟨h1, h2⟩
    · simp only; omega
theorem MOk.destroy {M : MM} (h : MOk M) {i : Nat} (hi : i < 8) : MOk (destroy M i).2 := by
  unfold Mo.destroy
  cases hP : M.T i with
  | none => exact h
  | some P =>
    obtain ⟨o, ht⟩ := h.part i hi P hP
    exact h.upd hi (fun Q e => by cases e) ⟨by have := o.ca.n; exact this, o.cN⟩
theorem MOk.act {M : MM} (h : MOk M) {i : Nat} (hi : i < 8) (kind n m : Int) (u : Nat) (d : Bs) : MOk (act M i kind n m u d).2 := by
  unfold Mo.act
  split
  · exact h.create hi _ _
  split
  · exact h.resize hi _ _
  split
  · exact h.destroy hi
  cases hP : M.T i with
  | none => exact h
  | some P =>
    obtain ⟨o, ht⟩ := h.part i hi P hP
    have hp := o.pdo kind n m u d
    exact h.set hi ⟨hp.1, hp.2.1.trans ht⟩
theorem chk_ok {o : XOp} (h : Op1.chk o = 0) : (1 ≤ o.kind ∧ o.kind ≤ 11) ∧ (0 ≤ o.tenant ∧ o.tenant < 8) ∧ o.data.size ≤ 8192 := by
  unfold Op1.chk at h
  split at h
  · simp at h
  · split at h
    · simp at h
    · omega
theorem MOk.mdo {M : MM} (h : MOk M) (o : XOp) : MOk (mdo M o).2 := by
  unfold Mo.mdo
  split
  · exact h
  · rename_i hc
    have := chk_ok (o := o) (by simpa using hc)
    exact h.act (by omega) _ _ _ _ _
end Mo
end Go.Proofs.YtagmkkddjdlncaaDoor
