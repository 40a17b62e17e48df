/- The statements of the line: what each law's function does. -/
import Derived.Test.YtmlolkjgniodpaaLineC
set_option linter.unusedVariables false
set_option linter.unusedSimpArgs false
namespace Go.Proofs.Ytmlolkjgniodpaa
open Go.RowKit Go.ChangeMaps
namespace Line
set_option maxRecDepth 100000 in
set_option maxHeartbeats 4000000 in
theorem awake_any (w : World) : Calls Try.prog 23 #[] w fun e w' => e = .returned (.bool true) ∧ Keeps (fun _ => False) w w' := by
  go_enter Try.func23, Try.ntmps23
  go_wp2_with fail
  refine (rep_new w).mono ?_
  rintro e w1 ⟨rfl, r1, k1⟩
  go_wp2_with fail
  refine (rep_push w1 _ _ [] 5 r1).mono ?_
  rintro e w2 ⟨rfl, r2, k2⟩
  rw [show pushE [] 5 = 0 by decide]
  rw [show pushL [] 5 = [5] by decide] at r2
  go_wp2_with fail
  refine (rep_push w2 _ _ [5] 2 r2).mono ?_
  rintro e w3 ⟨rfl, r3, k3⟩
  rw [show pushE [5] 2 = 0 by decide]
  rw [show pushL [5] 2 = [5, 2] by decide] at r3
  go_wp2_with fail
  refine (rep_push w3 _ _ [5, 2] 9 r3).mono ?_
  rintro e w4 ⟨rfl, r4, k4⟩
  rw [show pushE [5, 2] 9 = 0 by decide]
  rw [show pushL [5, 2] 9 = [5, 2, 9] by decide] at r4
  go_wp2_with fail
  refine (rep_push w4 _ _ [5, 2, 9] 2 r4).mono ?_
  rintro e w5 ⟨rfl, r5, k5⟩
  rw [show pushE [5, 2, 9] 2 = 7 by decide]
  rw [show pushL [5, 2, 9] 2 = [5, 2, 9] by decide] at r5
  go_wp2_with fail
  refine (rep_all w5 _ _ [5, 2, 9] r5 (by decide)).mono ?_
  rintro e w6 ⟨v, rfl, o6, f6, k6⟩
  have r6 := r5.keep k6 (fun x => x) (fun x => x)
  go_wp2_with fail
  refine (rep_remove w6 _ _ [5, 2, 9] 2 r6).mono ?_
  rintro e w7 ⟨rfl, r7, k7⟩
  rw [show removeE [5, 2, 9] 2 = 0 by decide]
  rw [show removeL [5, 2, 9] 2 = [5, 9] by decide] at r7
  obtain ⟨A, cap, rfl, hcap, hA, rd6⟩ := o6.rd
  have rd7 := rd6.keep k7 (fun ad ha _ => by have := f6 _ (hA ad ha); have := r5.lt; omega)
  go_wp2_with fail
  refine (same_is _ A (some ⟨w7.heap.size, 0, none⟩) cap 3 [5, 2, 9] [5, 2, 9] 3 3 true (rd7.old ((Keeps.refl _ _).alloc _)) (rd_lit w7 (ints [5, 2, 9]) _) rfl rfl (by decide) (by decide) (by decide)).mono ?_
  rintro e w8 ⟨rfl, k8'⟩
  have k8 : Keeps (fun _ => False) w7 w8 := ((Keeps.refl _ _).alloc _).trans' k8' (fun _ h _ => h)
  have r8 := r7.keep k8 (fun x => x) (fun x => x)
  go_wp2_with fail
  refine (rep_all w8 _ _ [5, 9] r8 (by decide)).mono ?_
  rintro e w9 ⟨v9, rfl, o9, f9, k9⟩
  have r9 := r8.keep k9 (fun x => x) (fun x => x)
  obtain ⟨A9, cap9, rfl, hcap9, hA9, rd9⟩ := o9.rd
  go_wp2_with fail
  refine (same_is _ A9 (some ⟨w9.heap.size, 0, none⟩) cap9 2 [5, 9] [5, 9] 2 2 true (rd9.old ((Keeps.refl _ _).alloc _)) (rd_lit w9 (ints [5, 9]) _) rfl rfl (by decide) (by decide) (by decide)).mono ?_
  rintro e w10 ⟨rfl, k10'⟩
  have k10 : Keeps (fun _ => False) w9 w10 := ((Keeps.refl _ _).alloc _).trans' k10' (fun _ h _ => h)
  have r10 := r9.keep k10 (fun x => x) (fun x => x)
  go_wp2_with fail
  refine (rep_front w10 _ _ [5, 9] r10).mono ?_
  rintro e w11 ⟨rfl, rfl⟩
  rw [show hd [5, 9] = 5 by decide]
  go_wp2_with fail
  refine (rep_len w10 _ _ [5, 9] r10).mono ?_
  rintro e w11 ⟨rfl, rfl⟩
  go_wp2
  go_ret
  refine ⟨rfl, ?_⟩
  have hF : ∀ x, (x = w.heap.size + 1 ∨ x = w.heap.size) → x < w.heap.size → False := by omega
  exact (((((((((k1.trans' k2 hF).trans' k3 hF).trans' k4 hF).trans' k5 hF).trans k6).trans' k7 hF).trans k8).trans k9).trans k10)

/-- The list that a line holds behind pushes, in their order. -/
def pushed (L : List Int) (xs : List Int) : List Int := xs.foldl pushL L
theorem pushed_snoc (L xs : List Int) (x : Int) : pushed L (xs ++ [x]) = pushL (pushed L xs) x := by simp [pushed]
theorem pushL_len (L : List Int) (k : Int) : (pushL L k).length ≤ L.length + 1 := by
  unfold pushL; split
  · omega
  · split
    · omega
    · simp
theorem pushed_len (xs : List Int) : ∀ L, (pushed L xs).length ≤ L.length + xs.length := by
  induction xs with
  | nil => intro L; simp [pushed]
  | cons x xs ih => intro L; have := ih (pushL L x); have := pushL_len L x; simp [pushed] at *; omega
theorem take_snoc (xs : List Int) (k : Nat) (h : k < xs.length) : xs.take (k + 1) = xs.take k ++ [xs.getD k 0] := by
  rw [List.take_succ_eq_append_getElem h]; simp [List.getD_eq_getElem?_getD, List.getElem?_eq_getElem h]

set_option maxRecDepth 100000 in
set_option maxHeartbeats 4000000 in
theorem order_any (w : World) (A : Option Addr) (cap : Nat) (xs : List Int) (ha : Rd w A (ints xs)) (hx : xs.length ≤ maxLen) :
    Calls Try.prog 4 #[.slice A xs.length cap] w fun e w' => e = .returned (.bool true) ∧ Below w.heap.size w w' := by
  unfold maxLen at hx
  by_cases hb : xs.length ≤ 1000
  · have hb' : decide ((xs.length : Int) > 1000) = false := by simp; omega
    go_enter Try.func4, Try.ntmps4
    go_wp2_with fail
    refine (awake_any w).mono ?_
    rintro e w1 ⟨rfl, k1⟩
    go_wp2_with fail
    refine (rep_new w1).mono ?_
    rintro e w2 ⟨rfl, r2, k2⟩
    have k12 := k1.trans k2
    have hsz := k12.size
    have h1z := k1.size
    obtain ⟨b, hbe⟩ : ∃ b, w1.heap.size + 1 = b := ⟨_, rfl⟩
    obtain ⟨m, hme⟩ : ∃ m, w1.heap.size = m := ⟨_, rfl⟩
    rw [hbe, hme] at r2
    rw [hbe]
    have hbm : w.heap.size ≤ b ∧ w.heap.size ≤ m := by omega
    clear hbe hme
    go_wp2_with fail
    go_loopw [4, 20] (fun v i wr => ∃ k : Nat, k ≤ xs.length ∧ i = .int .i64 k ∧ Rep wr b m (pushed [] (xs.take k)) ∧ Own wr 3 1 v (pushed [] (xs.take k)).length (ints (pushed [] (xs.take k))) ∧ (∀ g, v.ownBlock = some g → w.heap.size ≤ g ∧ g ≠ b ∧ g ≠ m) ∧ Keeps (fun _ => False) w wr)
      (fun _ i _ => xs.length - (intOf i).toNat)
    case atStart => exact ⟨0, Nat.zero_le _, rfl, r2, Own.nil _ _ _, by simp [Value.ownBlock], k12⟩
    case round =>
      obtain ⟨k, hk, rfl, r, o, fr, kp⟩ := hrel
      by_cases hlt : k < xs.length
      · obtain ⟨b1, o1, s1, rfl, hc1⟩ := rd_int (ha.old kp) k hlt
        have hk1 : decide ((k : Int) < xs.length) = true := by simp; omega
        have E1 : Hid _ := take_snoc xs k hlt
        have hlen : (pushed [] (xs.take k)).length ≤ 1000 := by have := pushed_len (xs.take k) []; simp at this; omega
        generalize xs.getD k 0 = x at *
        generalize hL : pushed [] (xs.take k) = L at *
        have EL : Hid (pushed [] (xs.take (k + 1)) = pushL L x) := by show _ = _; rw [E1.out, pushed_snoc, hL]
        clear hL E1
        by_cases hp : pushE L x = 0
        · have hp1 : pushL L x = L ++ [x] := by
            unfold pushE at hp; unfold pushL
            split at hp
            · cases hp
            · split at hp
              · cases hp
              · rw [if_neg (by assumption), if_neg (by assumption)]
          have hpush := rep_push wr b m L x r
          rw [hp, hp1] at hpush
          rw [hp1] at EL
          clear hp hp1
          go_wp2_with fail
          refine hpush.mono ?_
          rintro e w3 ⟨rfl, r3, k3⟩
          have o3 := o.keep k3 (fun g hg => by have := fr g hg; omega)
          go_wp2_with (at_builtin; refine wpList_app1 slInts w3 rfl _ _ rfl u4 L.length (ints L) rfl o3 [.int .i64 x] rfl rfl (by simp [Value.oneCell']) (by unfold maxLen; omega) (by omega) ?_; intro v1 w4 o4 k4 hat1)
          go_roundw
          case rel =>
            have hb1 : ∀ y, u4.ownBlock = some y → w.heap.size ≤ y ∧ y ≠ b ∧ y ≠ m := fr
            refine ⟨k + 1, by omega, by go_num, ?_, ?_, ?_, ?_⟩
            · rw [EL.out]
              exact r3.keep k4 (fun e => (hb1 _ e).2.1 rfl) (fun e => (hb1 _ e).2.2 rfl)
            · rw [EL.out, List.length_append, ints_append]; exact o4
            · intro g hg
              rcases hat1 with e | e
              · exact fr g (by rw [← e]; exact hg)
              · rw [e] at hg; cases hg
                have h5 := k3.size
                have h6 := kp.size
                have := r.lt
                omega
            · exact (kp.trans' k3 (fun x hx hl => by omega)).trans' k4 (fun x hx hl => by have := hb1 _ hx; omega)
          case measure => simp [intOf]; omega
        · have hp1 : pushL L x = L := by
            unfold pushE at hp; unfold pushL
            split
            · rfl
            · split
              · rfl
              · simp_all
          have hp' : (pushE L x == 0) = false := by simpa using hp
          have hpush := rep_push wr b m L x r
          rw [hp1] at hpush
          rw [hp1] at EL
          generalize pushE L x = ev at *
          clear hp hp1
          go_wp2_with fail
          refine hpush.mono ?_
          rintro e w3 ⟨rfl, r3, k3⟩
          have o3 := o.keep k3 (fun g hg => by have := fr g hg; omega)
          go_wp2
          go_roundw
          case rel =>
            refine ⟨k + 1, by omega, by go_num, by rw [EL.out]; exact r3, by rw [EL.out]; exact o3, fr, kp.trans' k3 (fun x hx hl => by omega)⟩
          case measure => simp [intOf]; omega
      · have hke : k = xs.length := by omega
        have hk1 : decide ((k : Int) < xs.length) = false := by simp; omega
        have EL : Hid (pushed [] (xs.take k) = pushed [] xs) := by show _ = _; rw [hke, List.take_length]
        rw [EL.out] at r o
        have hlen : (pushed [] xs).length ≤ 1000 := by have := pushed_len xs []; simp at this; omega
        clear hke
        generalize pushed [] xs = L at *
        clear EL
        obtain ⟨A2, cap2, rfl, hcap2, hA2, rd2⟩ := o.rd
        have hA3 : ∀ ad, A2 = some ad → w.heap.size ≤ ad.block ∧ ad.block ≠ b ∧ ad.block ≠ m := fun ad e => fr _ (hA2 ad e)
        clear fr hA2 o
        have HND : Hid L.Nodup := r.nodup
        go_wp2
        go_loopw [35] (fun i w2 => ∃ j : Nat, j ≤ L.length ∧ i = .int .i64 j ∧ Rep w2 b m (L.drop j) ∧ Rd w2 A2 (ints L) ∧ Keeps (fun _ => False) w w2) (fun i _ => L.length - (intOf i).toNat)
        case atStart => exact ⟨0, Nat.zero_le _, rfl, r, rd2, kp⟩
        case round =>
          obtain ⟨j, hj, rfl, rr, rdr, kr⟩ := hrel
          by_cases hjl : j < L.length
          · obtain ⟨b2, o2, s2, rfl, hc2⟩ := rd_int rdr j hjl
            have hk2 : decide ((j : Int) < L.length) = true := by simp; omega
            have ED : L.drop j = L.getD j 0 :: L.drop (j + 1) := by rw [List.drop_eq_getElem_cons hjl]; simp [List.getD_eq_getElem?_getD, List.getElem?_eq_getElem hjl]
            have hnx : L.getD j 0 ∉ L.drop (j + 1) := by
              have := (List.nodup_cons.1 (ED ▸ HND.out.sublist (List.drop_sublist j L))).1
              exact this
            rw [ED] at rr
            generalize L.getD j 0 = x at *
            have hnx' := Hid.of hnx
            generalize hM : L.drop (j + 1) = M at *
            have HM := Hid.of hM
            clear hM ED hnx
            have e1 : removeE (x :: M) x = 0 := by unfold removeE; rw [if_pos (by simp)]
            have e2 : removeL (x :: M) x = M := by
              unfold removeL
              rw [List.filter_cons]
              simp only [beq_self_eq_true, Bool.not_true, Bool.false_eq_true, if_false]
              exact List.filter_eq_self.2 fun y hy => by simp; rintro rfl; exact hnx'.out hy
            have e3 : decide (x ∈ M) = false := by simp; exact hnx'.out
            go_wp2_with fail
            refine (rep_front _ b m _ rr).mono ?_
            rintro e w3 ⟨rfl, rfl⟩
            rw [hd_cons]
            go_wp2_with fail
            refine (rep_remove _ b m _ x rr).mono ?_
            rintro e w3 ⟨rfl, r3, k3⟩
            rw [e1]
            rw [e2] at r3
            go_wp2_with fail
            refine (rep_has _ b m _ x r3).mono ?_
            rintro e w4 ⟨rfl, k4⟩
            rw [e3]
            go_wp2
            go_roundw
            case rel =>
              refine ⟨j + 1, by omega, by go_num, ?_, ?_, ?_⟩
              · rw [HM.out]; exact r3.keep k4 (fun x => x) (fun x => x)
              · exact (rdr.keep k3 (fun ad e _ => by have := hA3 ad e; omega)).old k4
              · exact (kr.trans' k3 (fun x hx hl => by omega)).trans k4
            case measure => simp [intOf]; omega
          · have hje : j = L.length := by omega
            have hk2 : decide ((j : Int) < L.length) = false := by simp; omega
            rw [hje, List.drop_length] at rr
            have HJ := Hid.of hje
            clear hje
            go_wp2_with fail
            refine (rep_front _ b m _ rr).mono ?_
            rintro e w3 ⟨rfl, rfl⟩
            rw [hd_nil]
            go_wp2_with fail
            refine (rep_len _ b m _ rr).mono ?_
            rintro e w3 ⟨rfl, rfl⟩
            rw [List.length_nil]
            go_wp2
            go_ret
            exact ⟨rfl, kr.below⟩
  · have hb' : decide ((xs.length : Int) > 1000) = true := by simp; omega
    go_enter Try.func4, Try.ntmps4
    go_wp2_with fail
    refine (awake_any w).mono ?_
    rintro e w1 ⟨rfl, k1⟩
    go_wp2_with fail
    refine (awake_any w1).mono ?_
    rintro e w2 ⟨rfl, k2⟩
    go_wp2
    go_ret
    exact ⟨rfl, (k1.trans k2).below⟩
end Line
end Go.Proofs.Ytmlolkjgniodpaa
