/- The table: garthlaw15.awake, the invariant of its pairs. -/
import Derived.Test.YtcjdejhjbelggaaTabD
import Derived.Test.YtcjdejhjbelggaaTabP
set_option linter.unusedVariables false
set_option linter.unusedSimpArgs false
namespace Go.Proofs.Ytcjdejhjbelggaa
open Go.RowKit Go.ChangeMaps
namespace Tab
theorem Out.rd {B : Nat} {w : World} {v : Value} {L : List Sp} (h : Out B w v L) : ∃ A cap, v = .slice A L.length cap ∧ L.length ≤ cap ∧ (∀ ad, A = some ad → B ≤ ad.block ∧ ad.block < w.heap.size) ∧ Rd w A (spans L) := by
  obtain ⟨A, cap, hv, hc, hn, hr⟩ := h.1.shape
  refine ⟨A, cap, hv, hc, fun ad ha => ⟨h.2 _ (by rw [hv, ha]; rfl), h.1.lt (by rw [hv, ha]; rfl)⟩, fun j u hu => ?_⟩
  have hj : j < L.length * 3 := by
    rcases Nat.lt_or_ge j (L.length * 3) with h | h
    · exact h
    · rw [List.getElem?_eq_none (by rw [spans_length]; exact h)] at hu; simp at hu
  obtain ⟨g, hA, hg, he⟩ := hr j hj
  refine ⟨_, hA, ?_⟩
  rw [addr_add, Nat.zero_add, he]; exact hu
set_option maxRecDepth 100000 in
set_option maxHeartbeats 4000000 in
theorem awake_any (w : World) : Calls Try.prog 5 #[] w fun e w' => e = .returned (.bool true) ∧ Keeps (fun _ => False) w w' := by
  go_enter Try.func5, Try.ntmps5
  go_wp2_with fail
  refine (new_any w).mono ?_
  rintro e w1 ⟨b, m, n, rfl, h1, lb, lm, ln, k1⟩
  have hF : ∀ x, (x = m ∨ x = n) → x < w.heap.size → False := by omega
  go_wp2_with fail
  refine (map_any w1 b m n [] [] 256 7 h1).mono ?_
  rw [show mapE [] [] 256 7 = 0 by decide, show mapS [] [] 256 7 = ([(256, 7)], [(7, 256)]) by decide]
  rintro e w2 ⟨rfl, h2, k2⟩
  have k12 := k1.trans' k2 hF
  clear k1 k2 h1
  go_wp2_with fail
  refine (map_any w2 b m n [(256, 7)] [(7, 256)] 257 3 h2).mono ?_
  rw [show mapE [(256, 7)] [(7, 256)] 257 3 = 0 by decide, show mapS [(256, 7)] [(7, 256)] 257 3 = ([(256, 7), (257, 3)], [(7, 256), (3, 257)]) by decide]
  rintro e w3 ⟨rfl, h3, k3⟩
  have k13 := k12.trans' k3 hF
  clear k12 k3 h2
  have hE : ∀ k, fnd [(256, 7), (257, 3)] k ≤ 1048576 := by
    have i := (Inv.nil.map 256 7).map 257 3
    rw [show mapS [] [] 256 7 = ([(256, 7)], [(7, 256)]) by decide, show mapS [(256, 7)] [(7, 256)] 257 3 = ([(256, 7), (257, 3)], [(7, 256), (3, 257)]) by decide] at i
    exact i.le
  go_wp2_with fail
  refine (pieces_any w3 b m n _ _ 131572 20 h3 hE).mono ?_
  rw [show pieces [(256, 7), (257, 3)] 131572 20 = some [⟨4084, 12, false⟩, ⟨1536, 8, false⟩] by decide]
  rintro e w4 ⟨v, rfl, o4, k4⟩
  have h4 := h3.old k4
  have k14 := k13.trans k4
  have hsz3 := k13.size
  clear k13 k4 h3
  go_wp2_with fail
  refine (pieces_any w4 b m n _ _ 132072 30 h4 hE).mono ?_
  rw [show pieces [(256, 7), (257, 3)] 132072 30 = none by decide]
  rintro e w5 ⟨v2, rfl, o5, k5⟩
  have h5 := h4.old k5
  have k15 := k14.trans k5
  have o5' := o4.1.keep k5 (fun _ _ x => x)
  clear k14 k5 h4 hE
  obtain ⟨A, cap, hv, -, -, r5⟩ := Out.rd (B := 0) ⟨o5', fun _ _ => Nat.zero_le _⟩
  subst hv
  have HK := Hid.of k15
  have H5 := Hid.of h5
  clear k15 o5 o4 o5' h5
  go_wp2_with fail
  refine (same_span_is _ A _ cap 2 [⟨4084, 12, false⟩, ⟨1536, 8, false⟩] [⟨4084, 12, false⟩, ⟨1536, 8, false⟩] 2 2 (r5.old ((Keeps.refl _ _).alloc _)) (rd_lit w5 (spans [⟨4084, 12, false⟩, ⟨1536, 8, false⟩]) _) rfl rfl (by omega) (by omega)).mono ?_
  rw [decide_eq_true rfl]
  rintro e w6 ⟨rfl, k6⟩
  have k56 : Keeps (fun _ => False) w5 w6 := ((Keeps.refl _ _).alloc _).trans k6
  have k16 := HK.out.trans k56
  have h6 := H5.out.old k56
  go_wp2_with fail
  refine (holder_any w6 b m n _ _ 3 h6).mono ?_
  rw [show fnd [(7, 256), (3, 257)] 3 = 257 by decide]
  rintro e w7 ⟨rfl, rfl⟩
  go_wp2_with fail
  refine (len_any w6 b m n _ _ h6).mono ?_
  rintro e w7 ⟨rfl, rfl⟩
  go_wp2
  go_ret
  exact ⟨rfl, k16⟩
end Tab
end Go.Proofs.Ytcjdejhjbelggaa
