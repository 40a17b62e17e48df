/- The pool package's walks: Owner, New, Copy. -/
import Derived.Test.YtcjdejhjbelggaaDoorPoA
set_option linter.unusedVariables false
set_option linter.unusedSimpArgs false
namespace Go.Proofs.YtcjdejhjbelggaaDoor
open Go.RowKit Go.ChangeMaps
namespace Po
/-- Whose a colour is. -/
def ownerL (Of : List Int) (c : Int) : Int := if 0 ≤ c ∧ c < Of.length then Of.getD c.toNat (-1) else -1
/-- Each colour is nobody's, or one of the eight's. -/
def Good (Of : List Int) : Prop := ∀ c, c < Of.length → -1 ≤ Of.getD c (-2) ∧ Of.getD c (-2) < 8
theorem mem_zs {l : List Nat} {x : Int} : x ∈ zs l ↔ ∃ c ∈ l, (c : Int) = x := by simp [zs]
theorem owner_at {Of : List Int} {i : Nat} {x : Int} (h : x ∈ zs (win Of i)) : ownerL Of x = i := by
  obtain ⟨c, hc, rfl⟩ := mem_zs.1 h
  obtain ⟨h1, h2⟩ := mem_win.1 hc
  unfold ownerL
  rw [if_pos (by omega), Int.toNat_natCast]
  rw [List.getD_eq_getElem?_getD, List.getElem?_eq_getElem h1] at h2 ⊢
  simpa using h2
theorem owner_none {Of : List Int} (hG : Good Of) {x : Int} (h : ∀ i : Nat, i < 8 → x ∉ zs (win Of i)) : ownerL Of x = -1 := by
  unfold ownerL
  split
  · rename_i hx
    obtain ⟨c, rfl⟩ : ∃ c : Nat, x = c := ⟨x.toNat, by omega⟩
    have hc : c < Of.length := by omega
    obtain ⟨g1, g2⟩ := hG c hc
    rw [Int.toNat_natCast]
    have e : Of.getD c (-1) = Of.getD c (-2) := by rw [List.getD_eq_getElem?_getD, List.getD_eq_getElem?_getD, List.getElem?_eq_getElem hc]; rfl
    rw [e]
    by_cases h0 : Of.getD c (-2) < 0
    · omega
    · obtain ⟨i, hi⟩ : ∃ i : Nat, Of.getD c (-2) = i := ⟨(Of.getD c (-2)).toNat, by omega⟩
      exact absurd (mem_zs.2 ⟨c, mem_win.2 ⟨hc, hi⟩, rfl⟩) (h i (by omega))
  · rfl
set_option maxRecDepth 100000 in
set_option maxHeartbeats 1000000 in
theorem indexfunc_any (w : World) (p s cb : Nat) (v : Value) (V : Nat → Value) (Of : List Int) (x : Int) (h : At w p s v V Of) (hG : Good Of) (hc : w.cell? ⟨cb, 0, none⟩ = some (.int .i64 x)) :
    Calls Tryd.prog 39 #[.slice (some ⟨p, 1, none⟩) 8 8, .func (.func 40) #[] #[.pointer (some ⟨cb, 0, none⟩)]] w fun e w' => e = .returned (.int .i64 (ownerL Of x)) ∧ w = w' := by
  obtain ⟨r, hR⟩ : ∃ r, ownerL Of x = r := ⟨_, rfl⟩
  rw [hR]
  have HR := Hid.of hR
  have HH := Hid.of (And.intro h hG)
  clear hR h hG
  go_enter Tryd.func39, Tryd.ntmps39
  go_wp2
  go_loop [8] (fun i => ∃ k : Nat, k ≤ 8 ∧ i = .int .i64 k ∧ Hid (∀ i : Nat, i < k → x ∉ zs (win Of i))) (fun i => 8 - (intOf i).toNat)
  case atStart => exact ⟨0, Nat.zero_le _, rfl, Hid.of (fun j hj => by omega)⟩
  case round =>
    obtain ⟨k, hk, rfl, HN⟩ := hrel
    by_cases hlt : k < 8
    · obtain ⟨c1, -⟩ := HH.out.1.win_at hlt
      obtain ⟨A, cap, hV, h1, h2, h3, h4⟩ := HH.out.1.row k hlt
      have hle := HH.out.1.len
      have hwl := win_len Of k
      rw [hV] at c1
      have q := ownerfn_any w A (win Of k).length cap cb (zs (win Of k)) x (zs_length _) h4 (by omega) hc
      have hlti : (k : Int) < 8 := by omega
      by_cases hm : x ∈ zs (win Of k)
      · have hd : decide (x ∈ zs (win Of k)) = true := by simpa using hm
        rw [hd] at q
        have HRE : Hid (r = (k : Int)) := Hid.of (by rw [← HR.out]; exact owner_at hm)
        clear hm hd h1 h2 h3 h4 hV hle hwl hk
        go_wp2_with fail
        refine q.mono ?_
        rintro e w1 ⟨rfl, rfl⟩
        go_wp2
        go_ret
        exact ⟨by rw [HRE.out]; rfl, rfl⟩
      · have hd : decide (x ∈ zs (win Of k)) = false := by simpa using hm
        rw [hd] at q
        have HN2 : Hid (∀ i : Nat, i < k + 1 → x ∉ zs (win Of i)) := Hid.of (fun j hj => by
          by_cases e : j = k
          · rw [e]; exact hm
          · exact HN.out j (by omega))
        clear hm hd h1 h2 h3 h4 hV hle hwl hk
        go_wp2_with fail
        refine q.mono ?_
        rintro e w1 ⟨rfl, rfl⟩
        go_wp2
        go_round
        case rel => exact ⟨k + 1, by omega, by go_num, HN2⟩
        case measure => simp [intOf]; omega
    · obtain rfl : k = 8 := by omega
      have HRE : Hid (r = -1) := Hid.of (by rw [← HR.out]; exact owner_none HH.out.2 HN.out)
      go_wp2
      go_ret
      exact ⟨by rw [HRE.out]; rfl, rfl⟩
set_option maxRecDepth 100000 in
set_option maxHeartbeats 1000000 in
theorem owner_any (w : World) (p s : Nat) (v : Value) (V : Nat → Value) (Of : List Int) (x : Int) (h : At w p s v V Of) (hG : Good Of) :
    Calls Tryd.prog 13 #[.pointer (some ⟨p, 0, none⟩), .int .i64 x] w fun e w' => e = .returned (.int .i64 (ownerL Of x)) ∧ Keeps (fun _ => False) w w' := by
  obtain ⟨w1, hw1⟩ : ∃ w1, w.alloc (.cells #[.int .i64 x] 3) = w1 := ⟨_, rfl⟩
  have k1 : Keeps (fun _ => False) w w1 := by rw [← hw1]; exact (Keeps.refl _ _).alloc _
  have c1 : w1.cell? ⟨w.heap.size, 0, none⟩ = some (.int .i64 x) := by rw [← hw1]; exact cell_of (alloc_new _ _) 0 rfl
  have q := indexfunc_any w1 p s w.heap.size v V Of x (h.old k1) hG c1
  have HK := Hid.of k1
  clear h hG c1 k1
  go_enter Tryd.func13, Tryd.ntmps13
  go_wp2_with fail
  refine q.mono ?_
  rintro e w2 ⟨rfl, rfl⟩
  go_wp2
  go_ret
  exact ⟨rfl, HK.out⟩
theorem win_new (n : Nat) (o : Nat) : win (List.replicate n (-1)) o = [] := by
  refine List.eq_nil_iff_forall_not_mem.2 fun c hc => ?_
  obtain ⟨h1, h2⟩ := mem_win.1 hc
  rw [List.getD_eq_getElem?_getD, List.getElem?_replicate, if_pos (by simpa using h1)] at h2
  simp at h2
theorem fr_new (n : Nat) : fr (List.replicate n (-1)) = List.replicate n true := by simp [fr]
theorem good_new (n : Nat) : Good (List.replicate n (-1)) := fun c hc => by
  rw [List.getD_eq_getElem?_getD, List.getElem?_replicate, if_pos (by simpa using hc)]; simp
theorem row_nil (w : World) : Row w (.slice none 0 0) [] := ⟨none, 0, rfl, Nat.le_refl _, Nat.zero_le _, fun _ => ⟨rfl, rfl⟩, Rd.nil _ _⟩
def NewR (w : World) (n : Nat) (e : Ending) (w' : World) : Prop := ∃ p s v V, e = .returned (.tuple #[.pointer (some ⟨p, 0, none⟩), .int .i64 0]) ∧ At w' p s v V (List.replicate n (-1)) ∧ (∀ x, Fp p s v x → w.heap.size ≤ x) ∧ (∀ i, i < 8 → V i = .slice none 0 0) ∧ Keeps (fun _ => False) w w'
set_option maxRecDepth 100000 in
set_option maxHeartbeats 1000000 in
theorem new_any (w : World) (n : Nat) (h1 : 1 ≤ n) (h2 : n ≤ 32) (hT : Sh.Tab w) :
    Calls Tryd.prog 9 #[.int .i64 n] w (NewR w n) := by
  have d1 : decide ((n : Int) < 1) = false := by simp; omega
  have d2 : decide (32 < (n : Int)) = false := by simp; omega
  have q := Sh.new_any w n (by omega)
  have HT := Hid.of hT.lt
  clear hT
  go_enter Tryd.func9, Tryd.ntmps9
  go_wp2_with fail
  refine q.mono ?_
  rintro e w1 ⟨s, v, rfl, hs, hf, k1⟩
  have HH := Hid.of (And.intro hs (And.intro hf k1))
  clear hs hf k1 q
  go_wp2
  go_ret2
  obtain ⟨hs, hf, k1⟩ := HH.out
  have ka : Keeps (fun _ => False) w1 (w1.alloc (.cells #[.pointer (some ⟨s, 0, none⟩), .slice none 0 0, .slice none 0 0, .slice none 0 0, .slice none 0 0, .slice none 0 0, .slice none 0 0, .slice none 0 0, .slice none 0 0] 72)) := (Keeps.refl _ _).alloc _
  refine ⟨w1.heap.size, s, v, fun _ => .slice none 0 0, rfl, ⟨alloc_new _ _, by rw [fr_new]; exact hs.old ka, fun hx => ?_, fun i _ => by rw [win_new]; exact row_nil _, fun i _ g hg => (by cases hg), by rw [List.length_replicate]; exact h2, fun hx => ?_, fun i _ g hg => (by cases hg)⟩, fun x hx => ?_, fun _ _ => rfl, k1.trans ka⟩
  · have := hs.lt hx; omega
  · have := HT.out
    have hz := k1.size
    rcases hx with hx | hx
    · omega
    · have := hf _ hx; omega
  · rcases hx with rfl | hx
    · exact k1.size
    · exact hf x hx
set_option maxRecDepth 100000 in
set_option maxHeartbeats 1000000 in
theorem new_bad (w : World) (n : Int) (hn : n < 1 ∨ 32 < n) :
    Calls Tryd.prog 9 #[.int .i64 n] w fun e w' => e = .returned (.tuple #[.pointer none, .int .i64 12]) ∧ w = w' := by
  rcases hn with h | h
  · have d1 : decide (n < 1) = true := by simp; omega
    go_enter Tryd.func9, Tryd.ntmps9
    go_wp2
    go_ret2
    exact ⟨rfl, rfl⟩
  · have d1 : decide (n < 1) = false := by simp; omega
    have d2 : decide (32 < n) = true := by simp; omega
    go_enter Tryd.func9, Tryd.ntmps9
    go_wp2
    go_ret2
    exact ⟨rfl, rfl⟩
end Po
end Go.Proofs.YtcjdejhjbelggaaDoor
