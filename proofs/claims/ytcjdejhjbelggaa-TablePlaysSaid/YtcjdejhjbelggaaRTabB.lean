/- The document's table (garthref15): All, Unmap. -/
import Derived.Test.YtcjdejhjbelggaaRTabA
set_option linter.unusedVariables false
set_option linter.unusedSimpArgs false
namespace Go.Proofs.Ytcjdejhjbelggaa
open Go.RowKit Go.ChangeMaps
namespace RTab
/-- An own slice whose block is from B on. -/
def Fr (e sz B : Nat) (w : World) (v : Value) (n : Nat) (cs : List Value) : Prop := Own w e sz v n cs ∧ ∀ g, v.ownBlock = some g → B ≤ g
theorem Fr.nil (e sz B : Nat) (w : World) : Fr e sz B w (.slice none 0 0) 0 [] := ⟨Own.nil _ _ _, by simp [Value.ownBlock]⟩
theorem Fr.app {e sz B : Nat} {w w0 w' : World} {v v' : Value} {n : Nat} {cs ds : List Value} (h : Fr e sz B w v n cs) (o : Own w' e sz v' (n + 1) (cs ++ ds)) (at' : v'.ownBlock = v.ownBlock ∨ v'.ownBlock = some (w0.heap.size + 1)) (hB : B ≤ w0.heap.size) : Fr e sz B w' v' (n + 1) (cs ++ ds) := by
  refine ⟨o, fun g hg => ?_⟩
  rcases at' with h1 | h1
  · exact h.2 g (by rw [← h1]; exact hg)
  · rw [h1] at hg; cases hg; omega
theorem Fr.keeps {e sz : Nat} {w0 w w' : World} {v : Value} {n : Nat} {cs : List Value} (h : Fr e sz w0.heap.size w v n cs) (k0 : Keeps (fun _ => False) w0 w) (k : Keeps (fun b => v.ownBlock = some b) w w') : Keeps (fun _ => False) w0 w' :=
  k0.trans' k (fun x hx hl => by have := h.2 x hx; omega)
theorem take_get {α : Type} {xs : List α} {j : Nat} {x : α} (h : xs[j]? = some x) : xs.take (j + 1) = xs.take j ++ [x] := by rw [List.take_add_one, h]; rfl
set_option maxRecDepth 100000 in
set_option maxHeartbeats 1000000 in
theorem all_any (w : World) (b : Nat) (v : Value) (L : Tab.Prs) (h : At w b v L) (hL : L.length ≤ 1000000) :
    Calls Try.prog 24 #[.pointer (some ⟨b, 0, none⟩)] w fun e w' => ∃ u, e = .returned u ∧ Fr 3 1 w.heap.size w' u L.length (ints (L.map (·.1))) ∧ Keeps (fun _ => False) w w' := by
  obtain ⟨hb, ho, hne⟩ := h
  obtain ⟨A, cap, rfl, hcap, hA, rd⟩ := own_rd ho
  clear ho hne hA
  go_enter Try.func24, Try.ntmps24
  go_wp2
  go_loopw [3, 4] (fun l i wr => ∃ j : Nat, j ≤ L.length ∧ i = .int .i64 j ∧ Fr 3 1 w.heap.size wr l j (ints ((L.take j).map (·.1))) ∧ Keeps (fun _ => False) w wr) (fun _ i _ => L.length - (intOf i).toNat)
  case atStart => exact ⟨0, Nat.zero_le _, rfl, Fr.nil _ _ _ _, Keeps.refl _ _⟩
  case round =>
    obtain ⟨j, hj, rfl, hf, kp⟩ := hrel
    have c0 := cell_of (kp.at hb (fun x => x)) 0 rfl
    by_cases hlt : j < L.length
    · obtain ⟨b1, o1, s1, x, y, hg, rfl, hc1, hc2⟩ := rpr (rd.old kp) j hlt
      have hk1 : decide ((j : Int) < L.length) = true := by simp; omega
      have hT := Hid.of (take_get hg)
      have hs := kp.size
      clear hg
      go_wp2_with (at_builtin; refine wpList_app1 slInts wr rfl _ _ rfl u3 j (ints ((L.take j).map (·.1))) rfl hf.1 [.int .i64 x] rfl rfl (by simp [Value.oneCell']) (by unfold maxLen; omega) (by omega) ?_; intro v' w5 o5 k5 at5)
      go_roundw
      case rel =>
        refine ⟨j + 1, by omega, by go_num, ?_, hf.keeps kp k5⟩
        rw [hT.out, List.map_append, ints_append]
        exact hf.app o5 at5 hs
      case measure => simp [intOf]; omega
    · have hje : j = L.length := by omega
      have hk1 : decide ((j : Int) < L.length) = false := by simp; omega
      rw [List.take_of_length_le (by omega)] at hf
      have HJ := Hid.of hje
      clear hje
      go_wp2
      go_ret
      exact ⟨_, rfl, by rw [← HJ.out]; exact hf, kp⟩
def del (L : Tab.Prs) (k : Int) : Tab.Prs := L.filter fun q => !(q.1 == k)
theorem prs_snoc (L : Tab.Prs) (x : Int × Int) : prs (L ++ [x]) = prs L ++ enc x := by simp [prs]
set_option maxRecDepth 100000 in
set_option maxHeartbeats 1000000 in
theorem unmap_any (w : World) (b : Nat) (v : Value) (L : Tab.Prs) (k : Int) (h : At w b v L) (hL : L.length ≤ 1000000) :
    Calls Try.prog 10 #[.pointer (some ⟨b, 0, none⟩), .int .i64 k] w fun e w' => e = .returned (.tuple #[.int .i64 (if byV L k < 0 then 0 else byV L k), .int .i64 (if byV L k < 0 then 13 else 0)]) ∧
      (∃ v', At w' b v' (if byV L k < 0 then L else del L k) ∧ (v'.ownBlock = v.ownBlock ∨ ∀ g, v'.ownBlock = some g → w.heap.size ≤ g)) ∧ Keeps (fun x => x = b) w w' := by
  have q1 := find_any w b v L k h
  have h0 := h
  obtain ⟨hb, ho, hne⟩ := h
  by_cases hz : byV L k < 0
  · rw [if_pos hz, if_pos hz, if_pos hz]
    generalize byV L k = r at *
    clear hb ho hne
    have HH := Hid.of h0
    clear h0
    go_enter Try.func10, Try.ntmps10
    go_wp2_with fail
    refine q1.mono ?_
    rintro e w1 ⟨rfl, rfl⟩
    go_wp2
    go_ret2
    exact ⟨rfl, ⟨v, HH.out, .inl rfl⟩, Keeps.refl _ _⟩
  · rw [if_neg hz, if_neg hz, if_neg hz]
    generalize byV L k = r at *
    obtain ⟨A, cap, rfl, hcap, hA, rd⟩ := own_rd ho
    have hbl := lt_of hb
    clear ho hne hA h0
    go_enter Try.func10, Try.ntmps10
    go_wp2_with fail
    refine q1.mono ?_
    rintro e w1 ⟨rfl, rfl⟩
    clear q1
    go_wp2
    go_loopw [7, 8] (fun l i wr => ∃ j : Nat, j ≤ L.length ∧ i = .int .i64 j ∧ Fr 55 2 w.heap.size wr l (del (L.take j) k).length (prs (del (L.take j) k)) ∧ Keeps (fun _ => False) w wr) (fun _ i _ => L.length - (intOf i).toNat)
    case atStart => exact ⟨0, Nat.zero_le _, rfl, Fr.nil _ _ _ _, Keeps.refl _ _⟩
    case round =>
      obtain ⟨j, hj, rfl, hf, kp⟩ := hrel
      have hb' := kp.at hb (fun x => x)
      have c0 := cell_of hb' 0 rfl
      by_cases hlt : j < L.length
      · obtain ⟨b1, o1, s1, x, y, hg, rfl, hc1, hc2⟩ := rpr (rd.old kp) j hlt
        have hk1 : decide ((j : Int) < L.length) = true := by simp; omega
        have hT := take_get hg
        have hs := kp.size
        have hl : (del (L.take j) k).length ≤ 1000000 := by have := List.length_filter_le (fun q : Int × Int => !(q.1 == k)) (L.take j); unfold del; simp at this; omega
        clear hg
        by_cases hxk : x = k
        · have e1 : (x != k) = false := by simp [hxk]
          have e2 : Hid (del (L.take (j + 1)) k = del (L.take j) k) := by refine Hid.of ?_; rw [hT]; unfold del; rw [List.filter_append]; simp [hxk]
          clear hxk hT
          go_wp2
          go_roundw
          case rel => exact ⟨j + 1, by omega, by go_num, by rw [e2.out]; exact hf, kp⟩
          case measure => simp [intOf]; omega
        · have e1 : (x != k) = true := by simp [hxk]
          have e2 : Hid (del (L.take (j + 1)) k = del (L.take j) k ++ [(x, y)]) := by refine Hid.of ?_; rw [hT]; unfold del; rw [List.filter_append]; simp [hxk]
          clear hxk hT
          generalize del (L.take j) k = M at *
          go_wp2_with (at_builtin; refine wpList_app1 slPairs wr rfl _ _ rfl u7 M.length (prs M) rfl hf.1 [.int .i64 x, .int .i64 y] rfl rfl (by simp [Value.oneCell']) (by unfold maxLen; omega) (by omega) ?_; intro v' w5 o5 k5 at5)
          go_roundw
          case rel =>
            refine ⟨j + 1, by omega, by go_num, ?_, hf.keeps kp k5⟩
            rw [e2.out, List.length_append, prs_snoc]
            exact hf.app o5 at5 hs
          case measure => simp [intOf]; omega
      · have hk1 : decide ((j : Int) < L.length) = false := by simp; omega
        rw [List.take_of_length_le (by omega)] at hf
        obtain ⟨A7, c7, hu, -⟩ := hf.1.shape
        subst hu
        obtain ⟨w6, hw6⟩ : ∃ w6, wr.setCell ⟨b, 0, none⟩ (.slice A7 (del L k).length c7) = w6 := ⟨_, rfl⟩
        have hub : (Value.slice A7 (del L k).length c7).ownBlock ≠ some b := fun e => by have := hf.2 _ e; omega
        have fr := free_of hb' 0
        have hfin : (∃ v', At w6 b v' (del L k) ∧ (v'.ownBlock = (Value.slice A L.length cap).ownBlock ∨ ∀ g, v'.ownBlock = some g → w.heap.size ≤ g)) ∧ Keeps (fun x => x = b) w w6 := by
          rw [← hw6]
          refine ⟨⟨_, ⟨?_, hf.1.setCell _ _ (by exact hub), hub⟩, .inr hf.2⟩, (kp.mono (fun _ _ e => e.elim)).setCell _ _ (.inl rfl)⟩
          exact set_of hb' 0 _
        have HF := Hid.of hfin
        clear hfin hf hb' hub
        go_wp2
        go_ret2
        exact ⟨rfl, HF.out⟩
end RTab
end Go.Proofs.Ytcjdejhjbelggaa
