/- ScriptReads, ScriptCuts: the laws' walks. -/
import Derived.Test.YtmlolkjgniodpaaScrN
import Derived.Test.YtmlolkjgniodpaaArgs
set_option linter.unusedVariables false
set_option linter.unusedSimpArgs false
namespace Go.Proofs.Ytmlolkjgniodpaa
open Go.RowKit Go.ChangeMaps
attribute [-go_sem] run_index_string run_neq_struct run_eql_struct run_equalIn_agg
namespace Scr
theorem read_len (l : Bs) : (read l).length ≤ 4000 := rd_len _ _
set_option maxRecDepth 100000 in
set_option maxHeartbeats 2000000 in
theorem reads_any (w : World) (s : ByteArray) (hs : s.size ≤ maxLen) :
    Calls Try.prog 10 #[.string s] w fun e w' => e = .returned (.bool true) ∧ Below w.heap.size w w' := by
  obtain ⟨l, rfl⟩ : ∃ l, s = bs l := ⟨_, bs_self s⟩
  rw [bs_size] at hs
  unfold maxLen at hs
  by_cases h : l.length ≤ 32768
  · have h1 : ¬ (32768 < l.length) := by omega
    have h2 : decide ((l.length : Int) > 32768) = false := by simp; omega
    have hn := read_len l
    go_enter Try.func10, Try.ntmps10
    go_wp2_with fail
    refine (awake_any w).mono ?_
    rintro e w1 ⟨rfl, k1⟩
    go_wp2_with fail
    refine (read_any w1 l).mono ?_
    rintro e w2 ⟨v2, rfl, o2, k2⟩
    obtain ⟨A2, c2, rfl, -, -, r2⟩ := o2.rd
    go_wp2_with fail
    refine (rread_any w2 l).mono ?_
    rintro e w3 ⟨v3, rfl, o3, k3⟩
    obtain ⟨A3, c3, rfl, -, -, r3⟩ := o3.rd
    have r2' := r2.old k3
    clear o2 o3 r2
    have q := same_any w3 A2 A3 c2 c3 (read l) (read l) (read l).length (read l).length r2' r3 rfl rfl (by omega) (by omega)
    have hd : decide (read l = read l) = true := by simp
    rw [hd] at q
    clear hd r2' r3
    go_wp2_with fail
    refine q.mono ?_
    rintro e w4 ⟨rfl, k4⟩
    go_wp2
    go_ret
    exact ⟨rfl, (((k1.trans k2).trans k3).trans k4).below⟩
  · have h1 : 32768 < l.length := by omega
    have h2 : decide ((l.length : Int) > 32768) = true := by simp; omega
    go_enter Try.func10, Try.ntmps10
    go_wp2_with fail
    refine (awake_any w).mono ?_
    rintro e w1 ⟨rfl, k1⟩
    go_wp2
    go_ret
    exact ⟨rfl, k1.below⟩
theorem rdc_take {w : World} {A : Option Addr} {xs : List Value} (h : Rd w A xs) (n : Nat) : Rd w A (xs.take n) := by
  intro j u hu
  rw [List.getElem?_take] at hu
  split at hu
  · exact h j u hu
  · simp at hu
theorem stps_take (L : List Stp) (n : Nat) : (stps L).take (n * 7) = stps (L.take n) := by
  induction L generalizing n with
  | nil => simp [stps]
  | cons x L ih =>
    cases n with
    | zero => simp [stps]
    | succ n =>
      have e : stps (x :: L) = x.enc ++ stps L := rfl
      have e2 : stps (x :: L.take n) = x.enc ++ stps (L.take n) := rfl
      have hx : x.enc.length = 7 := rfl
      rw [List.take_succ_cons, e2, e, List.take_append, hx, List.take_of_length_le (by rw [hx]; omega), show (n + 1) * 7 - 7 = n * 7 by omega, ih]
theorem sl_stp (A : Option Addr) (n z cap : Nat) (hz : z ≤ cap) :
    (∀ w, (Instr.slice 77 (.slice A n cap) none (some (.int .i64 z)) none).run Try.prog w = .ok (.slice A z cap) w) ∧ (∀ w, (Instr.sliceAt 77 (.slice A n cap) none (some (.int .i64 z)) none).run Try.prog w = .ok (.slice A z cap) w) := by
  have he : Try.prog.elem 77 = 108 := by simp [Program.elem, Try.underlying77]
  have ht : Try.prog.underlying 77 = some (.slice (Try.prog.elem 77)) := by rw [he]; exact Try.underlying77
  have hsz : ∀ w, (sizeOf 108).run Try.prog w = .ok 7 w := fun w => by kernel_rfl
  have h1 : ∀ w, (Instr.slice 77 (.slice A n cap) none (some (.int .i64 z)) none).run Try.prog w = .ok (.slice A z cap) w := by
    intro w
    rw [run_slice_h w _ A n cap ht .i64 z (by omega) (by omega), he, hsz]
    have : sliced A 0 (z : Int).toNat cap 7 = .slice A z cap := by
      unfold sliced
      cases A with
      | none => simp
      | some a => simp [Addr.add]
    simpa [Result.andThen] using this
  exact ⟨h1, fun w => by rw [run_sliceAt_slice w _ _ _ _ _ ht]; exact h1 w⟩
set_option maxRecDepth 100000 in
set_option maxHeartbeats 2000000 in
theorem cuts_any (w : World) (s : ByteArray) (cut : Int) (hs : s.size ≤ maxLen) (hc1 : -9223372036854775808 ≤ cut) (hc2 : cut ≤ 9223372036854775807) :
    Calls Try.prog 13 #[.string s, .int .i64 cut] w fun e w' => e = .returned (.bool true) ∧ Below w.heap.size w w' := by
  obtain ⟨l, rfl⟩ : ∃ l, s = bs l := ⟨_, bs_self s⟩
  rw [bs_size] at hs
  unfold maxLen at hs
  by_cases h : l.length ≤ 8192
  · have h1 : ¬ (8192 < l.length) := by omega
    have h2 : decide ((l.length : Int) > 8192) = false := by simp; omega
    have hn := read_len l
    obtain ⟨u, hu⟩ : ∃ u, IntKind.u64.wrap cut = u := ⟨_, rfl⟩
    have hu0 : 0 ≤ u ∧ u ≤ 18446744073709551615 := by rw [← hu, IntKind.wrap_u64]; omega
    obtain ⟨hu0, hu1⟩ := hu0
    have hm0 : 0 ≤ u % ((l.length : Int) + 1) := Int.emod_nonneg _ (by omega)
    have hm1 : u % ((l.length : Int) + 1) < (l.length : Int) + 1 := Int.emod_lt_of_pos _ (by omega)
    have hm2 : u.tmod ((l.length : Int) + 1) = u % ((l.length : Int) + 1) := Int.tmod_eq_emod_of_nonneg hu0
    have hm3 : u.tmod (((l.length + 1 : Nat) : Int)) = u % ((l.length : Int) + 1) := hm2
    obtain ⟨c, hc⟩ : ∃ c : Nat, u % ((l.length : Int) + 1) = c := ⟨(u % ((l.length : Int) + 1)).toNat, by omega⟩
    rw [hc] at hm0 hm1 hm2 hm3
    have hcl : c ≤ l.length := by omega
    have hpre := read_cut l c
    have hn2 := read_len (l.take c)
    have hle : (read (l.take c)).length ≤ (read l).length := hpre.length_le
    have hti : (read l).take (read (l.take c)).length = read (l.take c) := (List.prefix_iff_eq_take.1 hpre).symm
    go_enter Try.func13, Try.ntmps13
    go_wp2_with fail
    refine (awake_any w).mono ?_
    rintro e w1 ⟨rfl, k1⟩
    go_wp2_with fail
    refine (read_any w1 l).mono ?_
    rintro e w2 ⟨v2, rfl, o2, k2⟩
    obtain ⟨A2, c2, rfl, hcap, -, r2⟩ := o2.rd
    have HT := Hid.of hti
    have HL := Hid.of hle
    clear hti hpre o2
    go_wp2_with fail
    refine (read_any w2 (l.take c)).mono ?_
    rintro e w3 ⟨v3, rfl, o3, k3⟩
    obtain ⟨A3, c3, rfl, -, -, r3⟩ := o3.rd
    have r2' := rdc_take (r2.old k3) ((read (l.take c)).length * 7)
    rw [stps_take, HT.out] at r2'
    obtain ⟨m, hm⟩ : ∃ m, (read (l.take c)).length = m := ⟨_, rfl⟩
    obtain ⟨n, hn'⟩ : ∃ n, (read l).length = n := ⟨_, rfl⟩
    rw [hm] at hle hn2
    rw [hn'] at hle hn hcap
    obtain ⟨s1, s2⟩ := sl_stp A2 n m c2 (by omega)
    have hd : decide (read (l.take c) = read (l.take c)) = true := by simp
    have q := same_any w3 A3 A2 c3 c2 (read (l.take c)) (read (l.take c)) m m r3 r2' hm hm (by omega) (by omega)
    rw [hd] at q
    rw [hm, hn']
    have hle' : (m : Int) ≤ (n : Int) := by omega
    clear hm2 hm3 hm0 hm1 hc hu hu0 hu1 hd r3 r2' r2 o3 hm hn' h h1 h2 hcl HT HL hs hc1 hc2
    go_wp2_with fail
    refine q.mono ?_
    rintro e w4 ⟨rfl, k4⟩
    go_wp2
    go_ret
    exact ⟨rfl, (((k1.trans k2).trans k3).trans k4).below⟩
  · have h1 : 8192 < l.length := by omega
    have h2 : decide ((l.length : Int) > 8192) = true := by simp; omega
    go_enter Try.func13, Try.ntmps13
    go_wp2_with fail
    refine (awake_any w).mono ?_
    rintro e w1 ⟨rfl, k1⟩
    go_wp2_with fail
    refine (awake_any w1).mono ?_
    rintro e w2 ⟨rfl, k2⟩
    go_wp2
    go_ret
    exact ⟨rfl, (k1.trans k2).below⟩
end Scr
end Go.Proofs.Ytmlolkjgniodpaa
