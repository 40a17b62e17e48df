/- The shelf package's walks: Take, Give, New, Copy. -/
import Derived.Test.YtagmkkddjdlncaaDoorShA
import Derived.Test.YtagmkkddjdlncaaDoorApp
import Derived.Test.YtagmkkddjdlncaaDoorOut
import Derived.Deep.RegionHeld3
set_option linter.unusedVariables false
set_option linter.unusedSimpArgs false
namespace Go.Proofs.YtagmkkddjdlncaaDoor
open Go.RowKit Go.ChangeMaps
namespace Sh
/-- The answer of Take; the shelf behind it. -/
def takeR (S : List Bool) : Int × Int := match frees S with
  | [] => (0, 13)
  | k :: _ => ((k : Int), 0)
def takeS (S : List Bool) : List Bool := match frees S with
  | [] => S
  | k :: _ => S.set k false
set_option maxRecDepth 100000 in
set_option maxHeartbeats 1000000 in
theorem take_any (w : World) (b : Nat) (v : Value) (S : List Bool) (h : At w b v S) (hT : Tab w) :
    Calls Tryd.prog 60 #[.pointer (some ⟨b, 0, none⟩)] w fun e w' => e = .returned (.tuple #[.int .i64 (takeR S).1, .int .i64 (takeR S).2]) ∧ At w' b v (takeS S) ∧ Keeps (Fp b v) w w' := by
  have q := lowest_any w b v S h hT
  unfold takeR takeS
  cases hf : frees S with
  | nil =>
    have e : low S = -1 := by unfold low; rw [hf]
    rw [e] at q
    have HF := Hid.of h
    clear h hT e hf
    go_enter Tryd.func60, Tryd.ntmps60
    go_wp2_with fail
    refine q.mono ?_
    rintro e w1 ⟨rfl, rfl⟩
    go_wp2
    go_ret2
    exact ⟨rfl, HF.out, Keeps.refl _ _⟩
  | cons k r =>
    have e : low S = (k : Int) := by unfold low; rw [hf]
    rw [e] at q
    obtain ⟨h1, h2, h3⟩ := frees_take hf
    have t := turn_any w b v S k (-1) h h1 (by rw [h2]; rfl)
    rw [h2, Bool.not_true] at t
    have hk0 : decide ((k : Int) < 0) = false := by simp
    have hkb := h.len
    have hkl : k ≤ 65536 := by omega
    clear h hT e hf h1 h2 h3 hkb
    go_enter Tryd.func60, Tryd.ntmps60
    go_wp2_with fail
    refine q.mono ?_
    rintro e w1 ⟨rfl, rfl⟩
    go_wp2_with fail
    refine t.mono ?_
    rintro e w1 ⟨rfl, h4, k4⟩
    have HF := Hid.of (And.intro h4 k4)
    clear h4 k4 q t
    go_wp2
    go_ret2
    exact ⟨rfl, HF.out⟩
/-- The answer of Give; the shelf behind it. -/
def giveE (S : List Bool) (k : Int) : Int := if 0 ≤ k ∧ k < S.length then (if S.getD k.toNat false then 13 else 0) else 12
def giveS (S : List Bool) (k : Int) : List Bool := if 0 ≤ k ∧ k < S.length then S.set k.toNat true else S
theorem set_same (S : List Bool) (k : Nat) (b : Bool) (h : S.getD k (!b) = b) : S.set k b = S := by
  apply List.ext_getElem?
  intro j
  rw [List.getElem?_set]
  split
  · rename_i q; subst q
    rw [List.getD_eq_getElem?_getD] at h
    cases hj : S[k]? with
    | none => rw [List.getElem?_eq_none_iff] at hj; rw [if_neg (by omega)]
    | some c =>
      rw [hj] at h; simp at h
      have := (List.getElem?_eq_some_iff.1 hj).1
      rw [if_pos this, h]
  · rfl
theorem getD_any (S : List Bool) (k : Nat) (a b : Bool) (h : k < S.length) : S.getD k a = S.getD k b := by
  rw [List.getD_eq_getElem?_getD, List.getD_eq_getElem?_getD, List.getElem?_eq_getElem h]; rfl
set_option maxRecDepth 100000 in
set_option maxHeartbeats 1000000 in
theorem give_any (w : World) (b : Nat) (v : Value) (S : List Bool) (k : Int) (h : At w b v S) :
    Calls Tryd.prog 59 #[.pointer (some ⟨b, 0, none⟩), .int .i64 k] w fun e w' => e = .returned (.int .i64 (giveE S k)) ∧ At w' b v (giveS S k) ∧ Keeps (Fp b v) w w' := by
  have q := within_any w b v S k h
  have t := taken_any w b v S k h
  unfold giveE giveS
  by_cases hk : 0 ≤ k ∧ k < S.length
  · rw [if_pos hk, if_pos hk]
    have e : wi S.length k = 0 := by unfold wi; rw [if_pos hk]
    rw [e] at q
    obtain ⟨k, rfl⟩ : ∃ n : Nat, k = n := ⟨k.toNat, by omega⟩
    have hk' : k < S.length := by omega
    rw [taken_dec S k hk'] at t
    rw [Int.toNat_natCast]
    cases hf : S.getD k false with
    | true =>
      rw [hf, Bool.not_true] at t
      have hs : S.set k true = S := set_same S k true (by rw [Bool.not_true]; exact hf)
      rw [hs]
      have HF := Hid.of h
      clear h hk hk' hf hs e
      go_enter Tryd.func59, Tryd.ntmps59
      go_wp2_with fail
      refine q.mono ?_
      rintro e w1 ⟨rfl, rfl⟩
      go_wp2_with fail
      refine t.mono ?_
      rintro e w1 ⟨rfl, rfl⟩
      go_wp2
      go_ret
      exact ⟨rfl, HF.out, Keeps.refl _ _⟩
    | false =>
      rw [hf, Bool.not_false] at t
      have tn := turn_any w b v S k 1 h hk' (by rw [hf]; rfl)
      rw [hf, Bool.not_false] at tn
      clear h hk hk' hf e
      go_enter Tryd.func59, Tryd.ntmps59
      go_wp2_with fail
      refine q.mono ?_
      rintro e w1 ⟨rfl, rfl⟩
      go_wp2_with fail
      refine t.mono ?_
      rintro e w1 ⟨rfl, rfl⟩
      go_wp2_with fail
      refine tn.mono ?_
      rintro e w1 ⟨rfl, h4, k4⟩
      have HF := Hid.of (And.intro h4 k4)
      clear h4 k4 q t tn
      go_wp2
      go_ret
      exact ⟨rfl, HF.out⟩
  · rw [if_neg hk, if_neg hk]
    have e : wi S.length k = 12 := by unfold wi; rw [if_neg hk]
    rw [e] at q
    have HF := Hid.of h
    clear h hk e t
    go_enter Tryd.func59, Tryd.ntmps59
    go_wp2_with fail
    refine q.mono ?_
    rintro e w1 ⟨rfl, rfl⟩
    go_wp2
    go_ret
    exact ⟨rfl, HF.out, Keeps.refl _ _⟩
theorem one_u64s (ws : List Nat) : ∀ u ∈ u64s ws, u.oneCell' = true := by
  intro u hu
  unfold u64s at hu
  obtain ⟨c, _, rfl⟩ := List.mem_map.1 hu
  rfl
set_option maxRecDepth 100000 in
set_option maxHeartbeats 1000000 in
theorem clone_any (w : World) (A : Option Addr) (n cap : Nat) (news : List Value) (hA : A = none → n = 0 ∧ cap = 0) (hl : news.length = n) (hr : Rd w A news) (h1 : ∀ u ∈ news, u.oneCell' = true) (hn : n ≤ 1000000000) :
    Calls Tryd.prog 51 #[.slice A n cap] w fun e w' => ∃ v, e = .returned v ∧ OutR 32 1 w.heap.size w' v n news ∧ Keeps (fun _ => False) w w' := by
  have hq : ∀ w, (binOp .eql 98 (.slice A n cap) (.slice none 0 0)).run Tryd.prog w = .ok (.bool A.isNone) w := fun w => Lib.run_eql_slice_nil w _ _ A n cap 0 0 Tryd.underlying98
  cases A with
  | none =>
    obtain ⟨rfl, rfl⟩ := hA rfl
    obtain rfl : news = [] := List.eq_nil_of_length_eq_zero hl
    clear hr h1 hA hl
    go_enter Tryd.func51, Tryd.ntmps51
    go_wp2
    go_ret
    exact ⟨_, rfl, OutR.nil _ _ _ _, Keeps.refl _ _⟩
  | some ad =>
    obtain ⟨w3, hw3⟩ : ∃ w3, w.alloc (.cells #[] 32) = w3 := ⟨_, rfl⟩
    have o3 : Own w3 32 1 (.slice (some ⟨w.heap.size, 0, none⟩) 0 0) 0 [] := by rw [← hw3]; exact own_empty _ _ _
    have k3 : Keeps (fun _ => False) w w3 := by rw [← hw3]; exact (Keeps.refl _ _).alloc _
    have r3 := hr.old k3
    have hz : w.heap.size ≤ w3.heap.size := k3.size
    clear hr hA
    go_enter Tryd.func51, Tryd.ntmps51
    go_wp2_with (at_builtin; refine wpList_appO slWords w3 rfl _ _ rfl _ 0 [] rfl o3 (some ad) n cap news rfl (by intro e; cases e) (by rw [hl, Nat.mul_one]) r3 h1 (by unfold maxLen; omega) (by omega) ?_; intro v5 w5 o5 k5 at5; have HF := Hid.of (clone_end k3 o5 k5 at5); clear o5 k5 at5 o3 k3 r3 hw3)
    go_ret
    exact ⟨_, rfl, HF.out⟩
end Sh
end Go.Proofs.YtagmkkddjdlncaaDoor
