/- The statements of the line, second part: LineStays and LineNil. -/
import Derived.Test.YtmlolkjgniodpaaLineD
set_option linter.unusedVariables false
set_option linter.unusedSimpArgs false
namespace Go.Proofs.Ytmlolkjgniodpaa
open Go.RowKit Go.ChangeMaps
namespace Line
set_option maxRecDepth 100000 in
set_option maxHeartbeats 400000 in
theorem all_nil (w : World) : Calls Try.prog 30 #[.pointer none] w fun e w' => e = .returned (.slice none 0 0) ∧ w = w' := by
  go_enter Try.func30, Try.ntmps30
  go_wp2
  go_step3
  go_wp2_with fail
  refine (front_nil w).mono ?_
  rintro e w1 ⟨rfl, rfl⟩
  go_wp2
  go_step3
  go_wp2
  rw [Exit.noGoto_ret]
  go_ret
  exact ⟨rfl, rfl⟩

set_option maxRecDepth 100000 in
set_option maxHeartbeats 1000000 in
theorem nil_any (w : World) (k : Int) : Calls Try.prog 8 #[.int .i64 k] w fun e w' => e = .returned (.bool true) ∧ Below w.heap.size w w' := by
  go_enter Try.func8, Try.ntmps8
  go_wp2_with fail
  refine (awake_any w).mono ?_
  rintro e w1 ⟨rfl, k1⟩
  go_wp2_with fail
  refine (push_nil k w1).mono ?_
  rintro e w2 ⟨rfl, rfl⟩
  go_wp2_with fail
  refine (remove_nil k w1).mono ?_
  rintro e w2 ⟨rfl, rfl⟩
  go_wp2_with fail
  refine (front_nil w1).mono ?_
  rintro e w2 ⟨rfl, rfl⟩
  go_wp2_with fail
  refine (has_nil k w1).mono ?_
  rintro e w2 ⟨rfl, rfl⟩
  go_wp2_with fail
  refine (all_nil w1).mono ?_
  rintro e w2 ⟨rfl, rfl⟩
  go_wp2_with fail
  refine (len_nil w1).mono ?_
  rintro e w2 ⟨rfl, rfl⟩
  go_wp2_with fail
  refine (copy_nil w1).mono ?_
  rintro e w2 ⟨rfl, rfl⟩
  go_wp2
  go_ret
  exact ⟨rfl, k1.below⟩

theorem removeE_bool (L : List Int) (k : Int) : ((removeE L k == 0) == decide (k ∈ L)) = true := by
  unfold removeE; by_cases h : k ∈ L <;> simp [h]
theorem removeL_take (W : List Int) (k : Int) (j : Nat) (h : j < W.length) : removeL (W.take (j + 1)) k = if W.getD j 0 = k then removeL (W.take j) k else removeL (W.take j) k ++ [W.getD j 0] := by
  rw [take_snoc W j h]
  unfold removeL
  rw [List.filter_append]
  generalize W.getD j 0 = x
  by_cases e : x = k <;> simp [List.filter_cons, e]

set_option maxRecDepth 100000 in
set_option maxHeartbeats 4000000 in
theorem stays_any (w : World) (A : Option Addr) (cap : Nat) (xs : List Int) (kk : Int) (ha : Rd w A (ints xs)) (hx : xs.length ≤ maxLen) :
    Calls Try.prog 5 #[.slice A xs.length cap, .int .i64 kk] w fun e w' => e = .returned (.bool true) ∧ Below w.heap.size w w' := by
  unfold maxLen at hx
  by_cases hb : xs.length ≤ 1000
  · have hb' : decide ((xs.length : Int) > 1000) = false := by simp; omega
    go_enter Try.func5, Try.ntmps5
    go_wp2_with fail
    refine (awake_any w).mono ?_
    rintro e w1 ⟨rfl, k1⟩
    go_wp2_with fail
    refine (rep_new w1).mono ?_
    rintro e w2 ⟨rfl, r2, k2⟩
    have k12 := k1.trans k2
    have hsz := k12.size
    have h1z := k1.size
    obtain ⟨b, hbe⟩ : ∃ b, w1.heap.size + 1 = b := ⟨_, rfl⟩
    obtain ⟨m, hme⟩ : ∃ m, w1.heap.size = m := ⟨_, rfl⟩
    rw [hbe, hme] at r2
    rw [hbe]
    have hbm : w.heap.size ≤ b ∧ w.heap.size ≤ m := by omega
    clear hbe hme
    go_wp2_with fail
    go_loopw [25] (fun i wr => ∃ k : Nat, k ≤ xs.length ∧ i = .int .i64 k ∧ Rep wr b m (pushed [] (xs.take k)) ∧ Keeps (fun _ => False) w wr) (fun i _ => xs.length - (intOf i).toNat)
    case atStart => exact ⟨0, Nat.zero_le _, rfl, r2, k12⟩
    case round =>
      obtain ⟨k, hk, rfl, r, kp⟩ := hrel
      by_cases hlt : k < xs.length
      · obtain ⟨b1, o1, s1, rfl, hc1⟩ := rd_int (ha.old kp) k hlt
        have hk1 : decide ((k : Int) < xs.length) = true := by simp; omega
        have E1 : Hid _ := take_snoc xs k hlt
        generalize xs.getD k 0 = x at *
        go_wp2_with fail
        refine (rep_push wr b m _ x r).mono ?_
        rintro e w3 ⟨rfl, r3, k3⟩
        go_wp2
        go_roundw
        case rel => exact ⟨k + 1, by omega, by go_num, by rw [E1.out, pushed_snoc]; exact r3, kp.trans' k3 (fun x hx hl => by omega)⟩
        case measure => simp [intOf]; omega
      · have hke : k = xs.length := by omega
        have hk1 : decide ((k : Int) < xs.length) = false := by simp; omega
        have hlen : (pushed [] (xs.take k)).length ≤ 1000 := by have := pushed_len (xs.take k) []; simp at this; omega
        clear hke
        generalize pushed [] (xs.take k) = L at *
        go_wp2_with fail
        refine (rep_all wr b m L r (by omega)).mono ?_
        rintro e w3 ⟨v, rfl, ov, fv, k3⟩
        obtain ⟨A2, cap2, rfl, hcap2, hA2, rd2⟩ := ov.rd
        have r3 := r.keep k3 (fun x => x) (fun x => x)
        have hA3 : ∀ ad, A2 = some ad → w.heap.size ≤ ad.block ∧ ad.block ≠ b ∧ ad.block ≠ m := fun ad e => by have := fv _ (hA2 ad e); have := r.lt; have := kp.size; omega
        clear fv hA2 ov
        go_wp2_with fail
        refine (rep_has w3 b m L kk r3).mono ?_
        rintro e w4 ⟨rfl, k4⟩
        have r4 := r3.keep k4 (fun x => x) (fun x => x)
        have rd4 := rd2.old k4
        go_wp2_with fail
        refine (rep_remove w4 b m L kk r4).mono ?_
        rintro e w5 ⟨rfl, r5, k5⟩
        have rd5 := rd4.keep k5 (fun ad e _ => by have := hA3 ad e; omega)
        have k05 := ((kp.trans k3).trans k4).trans' k5 (fun x hx hl => by omega)
        have HB := Hid.of (removeE_bool L kk)
        have h5 := k05.size
        go_wp2_with fail
        go_loopw [11, 43] (fun v i w6 => ∃ j : Nat, j ≤ L.length ∧ i = .int .i64 j ∧ Rep w6 b m (removeL L kk) ∧ Rd w6 A2 (ints L) ∧ Own w6 3 1 v (removeL (L.take j) kk).length (ints (removeL (L.take j) kk)) ∧ (∀ g, v.ownBlock = some g → w5.heap.size ≤ g) ∧ Keeps (fun _ => False) w5 w6) (fun _ i _ => L.length - (intOf i).toNat)
        case atStart => exact ⟨0, Nat.zero_le _, rfl, r5, rd5, Own.nil _ _ _, by simp [Value.ownBlock], Keeps.refl _ _⟩
        case round =>
          obtain ⟨j, hj, rfl, r6, rd6, o6, f6, k6⟩ := hrel
          by_cases hjl : j < L.length
          · obtain ⟨b2, o2, s2, rfl, hc2⟩ := rd_int rd6 j hjl
            have hk2 : decide ((j : Int) < L.length) = true := by simp; omega
            have ET := Hid.of (removeL_take L kk j hjl)
            have hwl : (removeL (L.take j) kk).length ≤ 1000 := by
              have := List.length_filter_le (fun x => !(x == kk)) (L.take j)
              unfold removeL; simp only [List.length_take] at this; omega
            generalize L.getD j 0 = x at *
            by_cases hxk : x = kk
            · have hxk' : (x != kk) = false := by simp [hxk]
              have HX := Hid.of hxk
              clear hxk
              go_wp2
              go_roundw
              case rel => exact ⟨j + 1, by omega, by go_num, r6, rd6, by rw [ET.out, if_pos HX.out]; exact o6, f6, k6⟩
              case measure => simp [intOf]; omega
            · have hxk' : (x != kk) = true := by simp [hxk]
              have HX := Hid.of hxk
              clear hxk
              go_wp2_with (at_builtin; refine wpList_app1 slInts _ rfl _ _ rfl u11 (removeL (L.take j) kk).length (ints (removeL (L.take j) kk)) rfl o6 [.int .i64 x] rfl rfl (by simp [Value.oneCell']) (by unfold maxLen; omega) (by omega) ?_; intro v1 w7 o7 k7 hat1)
              go_roundw
              case rel =>
                have hlt6 := r6.lt
                have hlt5 := r5.lt
                refine ⟨j + 1, by omega, by go_num, r6.keep k7 (fun e => by have := f6 _ e; omega) (fun e => by have := f6 _ e; omega), rd6.keep k7 (fun ad e hl hf => ?_), by rw [ET.out, if_neg HX.out, List.length_append, ints_append]; exact o7, ?_, k6.trans' k7 (fun x hx hl => by have := f6 _ hx; omega)⟩
                · have hf' := f6 _ hf
                  obtain ⟨ad', ha', hc'⟩ := rd5 0 (.int .i64 (L.getD 0 0)) (ints_get L 0 (by omega))
                  cases ha'
                  cases e
                  have := World.block_lt_of_cell? _ _ hc'
                  rw [block_add] at this
                  omega
                · intro g hg
                  rcases hat1 with e | e
                  · exact f6 g (by rw [← e]; exact hg)
                  · rw [e] at hg; cases hg
                    have := k6.size; omega
              case measure => simp [intOf]; omega
          · have hje : j = L.length := by omega
            have hk2 : decide ((j : Int) < L.length) = false := by simp; omega
            rw [hje, List.take_length] at o6
            clear hje
            have hwl : (removeL L kk).length ≤ 1000 := by
              have := List.length_filter_le (fun x => !(x == kk)) L
              unfold removeL; omega
            have hin : decide (kk ∈ removeL L kk) = false := by unfold removeL; simp
            have HIN := Hid.of hin
            clear hin
            generalize hrl : removeL L kk = R at *
            clear hrl
            obtain ⟨A6, cap6, rfl, hcap6, hA6, rdR⟩ := o6.rd
            have HB' := HB.out
            generalize removeE L kk = ev at HB' ⊢
            go_wp2_with fail
            refine (rep_all _ b m R r6 (by omega)).mono ?_
            rintro e w7 ⟨v7, rfl, o7, f7, k7⟩
            obtain ⟨A7, cap7, rfl, hcap7, hA7, rd7⟩ := o7.rd
            have r7 := r6.keep k7 (fun x => x) (fun x => x)
            go_wp2_with fail
            refine (same_is w7 A7 A6 cap7 cap6 R R R.length R.length true rd7 (rdR.old k7) rfl rfl (by omega) (by omega) (by simp)).mono ?_
            rintro e w8 ⟨rfl, k8⟩
            have r8 := r7.keep k8 (fun x => x) (fun x => x)
            go_wp2_with fail
            refine (rep_len w8 b m R r8).mono ?_
            rintro e w9 ⟨rfl, rfl⟩
            go_wp2_with fail
            refine (rep_has w8 b m R kk r8).mono ?_
            rintro e w9 ⟨rfl, k9⟩
            rw [HIN.out]
            go_wp2
            go_ret
            exact ⟨rfl, ((((k05.trans k6).trans k7).trans k8).trans k9).below⟩
  · have hb' : decide ((xs.length : Int) > 1000) = true := by simp; omega
    go_enter Try.func5, Try.ntmps5
    go_wp2_with fail
    refine (awake_any w).mono ?_
    rintro e w1 ⟨rfl, k1⟩
    go_wp2_with fail
    refine (awake_any w1).mono ?_
    rintro e w2 ⟨rfl, k2⟩
    go_wp2
    go_ret
    exact ⟨rfl, (k1.trans k2).below⟩
end Line
end Go.Proofs.Ytmlolkjgniodpaa
