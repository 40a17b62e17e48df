/- Read, the program's and the document's. -/
import Derived.Test.YtmlolkjgniodpaaScrF
import Derived.Test.YtmlolkjgniodpaaScrD
import Derived.Test.YtmlolkjgniodpaaScrG
set_option linter.unusedVariables false
set_option linter.unusedSimpArgs false
namespace Go.Proofs.Ytmlolkjgniodpaa
open Go.RowKit Go.ChangeMaps
attribute [-go_sem] run_index_string run_neq_struct run_eql_struct run_equalIn_agg
namespace Scr
theorem step_yes (w : World) (b : Nat) (m : Bs) (ht : TAt w b ⟨m, false⟩) (hl : m.length ≤ 1000000) (x : Stp) (r : Bs) (h : one m = some (x, r)) :
    Calls Try.prog 63 #[.pointer (some ⟨b, 0, none⟩)] w fun e w' => e = .returned (.tuple #[.agg #[.int .i64 x.kind, .int .i64 x.tenant, .int .i64 x.n, .int .i64 x.m, .int .u64 x.handle, .string (bs x.data), .int .i64 x.back], .bool true]) ∧ TAt w' b ⟨r, false⟩ ∧ Keeps (fun x => x = b) w w' := by
  have := step_any w b ⟨m, false⟩ ht hl
  rw [(tstep_one m).1 x r h] at this
  exact this
theorem step_no (w : World) (b : Nat) (m : Bs) (ht : TAt w b ⟨m, false⟩) (hl : m.length ≤ 1000000) (h : one m = none) :
    Calls Try.prog 63 #[.pointer (some ⟨b, 0, none⟩)] w fun e w' => e = .returned (.tuple #[.agg #[.int .i64 0, .int .i64 0, .int .i64 0, .int .i64 0, .int .u64 0, .string (bs []), .int .i64 0], .bool false]) ∧ Keeps (fun x => x = b) w w' := by
  have := step_any w b ⟨m, false⟩ ht hl
  rw [(tstep_one m).2 h] at this
  exact this.mono fun e w' ⟨h1, h2, h3⟩ => ⟨h1, h3⟩
theorem one_yes (w : World) (m : Bs) (hl : m.length ≤ 1000000) (x : Stp) (r : Bs) (h : one m = some (x, r)) :
    Calls Try.prog 64 #[.string (bs m)] w fun e w' => e = .returned (.tuple #[.agg #[.int .i64 x.kind, .int .i64 x.tenant, .int .i64 x.n, .int .i64 x.m, .int .u64 x.handle, .string (bs x.data), .int .i64 x.back], .string (bs r), .bool true]) ∧ Keeps (fun _ => False) w w' := by
  have hv : oneV m = (x, r, true) := by unfold oneV; rw [h]
  by_cases h2 : m.length < 2
  · have := one_short w m h2
    rw [hv] at this; exact this
  · have := one_long w m (by omega) hl
    rw [hv] at this; exact this
theorem one_no (w : World) (m : Bs) (hl : m.length ≤ 1000000) (h : one m = none) :
    Calls Try.prog 64 #[.string (bs m)] w fun e w' => e = .returned (.tuple #[.agg #[.int .i64 0, .int .i64 0, .int .i64 0, .int .i64 0, .int .u64 0, .string (bs []), .int .i64 0], .string (bs []), .bool false]) ∧ Keeps (fun _ => False) w w' := by
  have hv : oneV m = (zero, [], false) := by unfold oneV; rw [h]
  by_cases h2 : m.length < 2
  · have := one_short w m h2
    rw [hv] at this; exact this
  · have := one_long w m (by omega) hl
    rw [hv] at this; exact this
theorem parts_len (r : List Part) : ∀ (x : Stp) (l : Bs) (y : Stp) (m : Bs), parts r x l = some (y, m) → m.length ≤ l.length := by
  induction r with
  | nil => intro x l y m h; cases h; exact Nat.le_refl _
  | cons p r ih =>
    intro x l y m h
    by_cases c : l.length < pn p l
    · rw [parts_no c] at h; cases h
    · rw [parts_ok c] at h
      have := ih _ _ _ _ h
      rw [List.length_drop] at this; omega
theorem one_len {l : Bs} {x : Stp} {r : Bs} (h : one l = some (x, r)) : r.length ≤ l.length := by
  unfold one at h
  split at h
  · cases h
  · have := parts_len _ _ _ _ _ h
    rw [List.length_drop] at this; omega
def sliceLen : Value → Nat
  | .slice _ n _ => n
  | _ => 0
theorem one_enc (x : Stp) : ∀ u ∈ [Value.int .i64 x.kind, .int .i64 x.tenant, .int .i64 x.n, .int .i64 x.m, .int .u64 x.handle, .string (bs x.data), .int .i64 x.back], u.oneCell' = true := by
  intro u hu
  simp at hu
  rcases hu with rfl | rfl | rfl | rfl | rfl | rfl | rfl <;> rfl
set_option maxRecDepth 100000 in
set_option maxHeartbeats 1000000 in
theorem read_le (w : World) (l : Bs) (hl : l.length ≤ 16384) :
    Calls Try.prog 48 #[.string (bs l)] w fun e w' => ∃ v, e = .returned v ∧ OutR 108 7 w.heap.size w' v (read l).length (stps (read l)) ∧ Keeps (fun _ => False) w w' := by
  have HE : Hid (read l = rd 4000 l) := by refine Hid.of ?_; unfold read; rw [List.take_of_length_le hl]
  have htl : (l).length ≤ 16384 := by omega
  generalize read l = RL at *
  obtain ⟨w1, hw1⟩ : ∃ w1, w.alloc (.cells #[.string (bs l), .bool false] 111) = w1 := ⟨_, rfl⟩
  have t1 : TAt w1 w.heap.size ⟨l, false⟩ := by rw [← hw1]; exact alloc_new _ _
  have K1 : Keeps (fun _ => False) w w1 := by rw [← hw1]; exact (Keeps.refl _ _).alloc _
  have hbs := lt_of t1
  go_enter Try.func48, Try.ntmps48
  go_wp2
  obtain ⟨b, hb⟩ : ∃ b, w.heap.size = b := ⟨_, rfl⟩
  rw [hb] at t1 hbs
  have HB := Hid.of hb
  clear hw1
  try rw [hb]
  go_loopw [2] (fun v wr => ∃ (L : List Stp) (m : Bs), L.length ≤ 4000 ∧ OutR 108 7 (b + 1) wr v L.length (stps L) ∧ TAt wr b ⟨m, false⟩ ∧ m.length ≤ 16384 ∧ Hid (RL = L ++ rd (4000 - L.length) m) ∧ Keeps (fun _ => False) w wr) (fun v _ => 4000 - sliceLen v)
  case atStart => exact ⟨[], _, Nat.zero_le _, ⟨Own.nil _ _ _, by simp [Value.ownBlock]⟩, t1, htl, Hid.of (by rw [HE.out]; rfl), K1⟩
  case round =>
    clear t1 htl K1 hbs hl
    obtain ⟨L, m, hL, ho, t, hm, HL, kp⟩ := hrel
    obtain ⟨A, cap, rfl, hcap, hA, rd1⟩ := ho.rd
    have hbl := lt_of t
    by_cases hlt : L.length < 4000
    · cases ho1 : one m with
      | none =>
        have q := step_no wr b m t (by omega) ho1
        have HR : Hid (RL = L) := by refine Hid.of ?_; rw [HL.out, rd_none ho1, List.append_nil]
        clear ho1
        go_wp2_with fail
        refine q.mono ?_
        rintro e w4 ⟨rfl, k4⟩
        have o4 : OutR 108 7 (b + 1) w4 (.slice A L.length cap) L.length (stps L) := ⟨ho.1.keep k4 (fun g hg => by have := ho.2 g hg; omega), ho.2⟩
        have K4 : Keeps (fun _ => False) w w4 := kp.trans' k4 (fun x e hl => by have := HB.out; omega)
        have HF := Hid.of (And.intro o4 K4)
        clear ho t o4 K4 k4 kp rd1
        go_wp2
        go_ret
        refine ⟨_, rfl, ?_, HF.out.2.alloc _⟩
        rw [HR.out]
        exact ⟨HF.out.1.1.alloc _, fun g hg => by have := HF.out.1.2 g hg; have := HB.out; omega⟩
      | some p =>
        obtain ⟨x, r⟩ := p
        have q := step_yes wr b m t (by omega) x r ho1
        have hrl := one_len ho1
        have HR : Hid (RL = (L ++ [x]) ++ rd (4000 - (L ++ [x]).length) r) := by
          refine Hid.of ?_
          rw [HL.out, show 4000 - L.length = (4000 - (L ++ [x]).length) + 1 by simp; omega, rd_some ho1, List.append_assoc]
          rfl
        clear ho1
        go_wp2_with fail
        refine q.mono ?_
        rintro e w4 ⟨rfl, t4, k4⟩
        have o4 : OutR 108 7 (b + 1) w4 (.slice A L.length cap) L.length (stps L) := ⟨ho.1.keep k4 (fun g hg => by have := ho.2 g hg; omega), ho.2⟩
        have K4 : Keeps (fun _ => False) w w4 := kp.trans' k4 (fun x e hl => by have := HB.out; omega)
        obtain ⟨w5, hw5⟩ : ∃ w5, w4.alloc (.cells #[.int .i64 x.kind, .int .i64 x.tenant, .int .i64 x.n, .int .i64 x.m, .int .u64 x.handle, .string (bs x.data), .int .i64 x.back] 108) = w5 := ⟨_, rfl⟩
        have x5 : XAt w5 w4.heap.size x := by rw [← hw5]; exact alloc_new _ _
        have o5 : OutR 108 7 (b + 1) w5 (.slice A L.length cap) L.length (stps L) := by rw [← hw5]; exact ⟨o4.1.alloc _, o4.2⟩
        have K5 : Keeps (fun _ => False) w w5 := by rw [← hw5]; exact K4.alloc _
        have t5 : TAt w5 b ⟨r, false⟩ := by rw [← hw5]; exact alloc_old t4 _
        obtain ⟨h0, h1, h2, h3, h4, h5, h6⟩ := x5.all
        have hs5 : b + 1 ≤ w5.heap.size := lt_of t5
        clear ho t o4 K4 k4 kp rd1 t4 q
        go_wp2_with (at_builtin; refine wpList_app1 slSteps w5 rfl _ _ rfl (.slice A L.length cap) L.length (stps L) rfl o5.1 [.int .i64 x.kind, .int .i64 x.tenant, .int .i64 x.n, .int .i64 x.m, .int .u64 x.handle, .string (bs x.data), .int .i64 x.back] rfl rfl (one_enc x) (by unfold maxLen; omega) (by omega) ?_; intro v6 w6 o6 k6 at6; obtain ⟨A6, c6, rfl, -, -, -⟩ := o6.shape)
        go_roundw
        case rel =>
          refine ⟨L ++ [x], r, by simp; omega, ?_, t5.keep k6 (fun e => by have := o5.2 b e; omega), by omega, HR, K5.trans' k6 (fun g hg hl => by have := o5.2 g hg; have := HB.out; omega)⟩
          rw [stps_append, List.length_append]
          exact o5.app (ds := [.int .i64 x.kind, .int .i64 x.tenant, .int .i64 x.n, .int .i64 x.m, .int .u64 x.handle, .string (bs x.data), .int .i64 x.back]) o6 at6 hs5
        case measure => simp [sliceLen]; omega
    · have hL4 : L.length = 4000 := by omega
      have HR : Hid (RL = L) := by refine Hid.of ?_; rw [HL.out, hL4]; simp [rd]
      have hk1 : ¬ L.length < 4000 := hlt
      have hk2 : decide ((L.length : Int) < 4000) = false := by simp; omega
      have HF := Hid.of (And.intro ho kp)
      clear ho kp t rd1 HL hL4 hlt
      go_wp2
      go_ret
      refine ⟨_, rfl, ?_, HF.out.2⟩
      rw [HR.out]
      exact ⟨HF.out.1.1, fun g hg => by have := HF.out.1.2 g hg; have := HB.out; omega⟩
set_option maxRecDepth 100000 in
set_option maxHeartbeats 1000000 in
theorem rread_le (w : World) (l : Bs) (hl : l.length ≤ 16384) :
    Calls Try.prog 49 #[.string (bs l)] w fun e w' => ∃ v, e = .returned v ∧ OutR 108 7 w.heap.size w' v (read l).length (stps (read l)) ∧ Keeps (fun _ => False) w w' := by
  have HE : Hid (read l = rd 4000 l) := by refine Hid.of ?_; unfold read; rw [List.take_of_length_le hl]
  have htl : (l).length ≤ 16384 := by omega
  generalize read l = RL at *
  go_enter Try.func49, Try.ntmps49
  go_wp2
  go_loopw [0, 3] (fun s v wr => ∃ (L : List Stp) (m : Bs), L.length ≤ 4000 ∧ s = .string (bs m) ∧ OutR 108 7 w.heap.size wr v L.length (stps L) ∧ m.length ≤ 16384 ∧ Hid (RL = L ++ rd (4000 - L.length) m) ∧ Keeps (fun _ => False) w wr) (fun _ v _ => 4000 - sliceLen v)
  case atStart => exact ⟨[], _, Nat.zero_le _, rfl, ⟨Own.nil _ _ _, by simp [Value.ownBlock]⟩, htl, Hid.of (by rw [HE.out]; rfl), Keeps.refl _ _⟩
  case round =>
    clear htl hl
    obtain ⟨L, m, hL, rfl, ho, hm, HL, kp⟩ := hrel
    obtain ⟨A, cap, rfl, hcap, hA, rd1⟩ := ho.rd
    have hsz := kp.size
    by_cases hlt : L.length < 4000
    · cases ho1 : one m with
      | none =>
        have q := one_no wr m (by omega) ho1
        have HR : Hid (RL = L) := by refine Hid.of ?_; rw [HL.out, rd_none ho1, List.append_nil]
        clear ho1
        go_wp2_with fail
        refine q.mono ?_
        rintro e w4 ⟨rfl, k4⟩
        have o4 : OutR 108 7 w.heap.size w4 (.slice A L.length cap) L.length (stps L) := ⟨ho.1.keep k4 (fun g hg e => e), ho.2⟩
        have K4 : Keeps (fun _ => False) w w4 := kp.trans k4
        have HF := Hid.of (And.intro o4 K4)
        clear ho o4 K4 k4 kp rd1
        go_wp2
        go_ret
        refine ⟨_, rfl, ?_, HF.out.2.alloc _⟩
        rw [HR.out]
        exact ⟨HF.out.1.1.alloc _, HF.out.1.2⟩
      | some p =>
        obtain ⟨x, r⟩ := p
        have q := one_yes wr m (by omega) x r ho1
        have hrl := one_len ho1
        have HR : Hid (RL = (L ++ [x]) ++ rd (4000 - (L ++ [x]).length) r) := by
          refine Hid.of ?_
          rw [HL.out, show 4000 - L.length = (4000 - (L ++ [x]).length) + 1 by simp; omega, rd_some ho1, List.append_assoc]
          rfl
        clear ho1
        go_wp2_with fail
        refine q.mono ?_
        rintro e w4 ⟨rfl, k4⟩
        have o4 : OutR 108 7 w.heap.size w4 (.slice A L.length cap) L.length (stps L) := ⟨ho.1.keep k4 (fun g hg e => e), ho.2⟩
        have K4 : Keeps (fun _ => False) w w4 := kp.trans k4
        obtain ⟨w5, hw5⟩ : ∃ w5, w4.alloc (.cells #[.int .i64 x.kind, .int .i64 x.tenant, .int .i64 x.n, .int .i64 x.m, .int .u64 x.handle, .string (bs x.data), .int .i64 x.back] 108) = w5 := ⟨_, rfl⟩
        have x5 : XAt w5 w4.heap.size x := by rw [← hw5]; exact alloc_new _ _
        have o5 : OutR 108 7 w.heap.size w5 (.slice A L.length cap) L.length (stps L) := by rw [← hw5]; exact ⟨o4.1.alloc _, o4.2⟩
        have K5 : Keeps (fun _ => False) w w5 := by rw [← hw5]; exact K4.alloc _
        obtain ⟨h0, h1, h2, h3, h4, h5, h6⟩ := x5.all
        have hs5 : w.heap.size ≤ w5.heap.size := K5.size
        clear ho o4 K4 k4 kp rd1 q
        go_wp2_with (at_builtin; refine wpList_app1 slSteps w5 rfl _ _ rfl (.slice A L.length cap) L.length (stps L) rfl o5.1 [.int .i64 x.kind, .int .i64 x.tenant, .int .i64 x.n, .int .i64 x.m, .int .u64 x.handle, .string (bs x.data), .int .i64 x.back] rfl rfl (one_enc x) (by unfold maxLen; omega) (by omega) ?_; intro v6 w6 o6 k6 at6; obtain ⟨A6, c6, rfl, -, -, -⟩ := o6.shape)
        go_roundw
        case rel =>
          refine ⟨L ++ [x], r, by simp; omega, rfl, ?_, by omega, HR, K5.trans' k6 (fun g hg hl => by have := o5.2 g hg; omega)⟩
          rw [stps_append, List.length_append]
          exact o5.app (ds := [.int .i64 x.kind, .int .i64 x.tenant, .int .i64 x.n, .int .i64 x.m, .int .u64 x.handle, .string (bs x.data), .int .i64 x.back]) o6 at6 hs5
        case measure => simp [sliceLen]; omega
    · have hL4 : L.length = 4000 := by omega
      have HR : Hid (RL = L) := by refine Hid.of ?_; rw [HL.out, hL4]; simp [rd]
      have hk1 : ¬ L.length < 4000 := hlt
      have hk2 : decide ((L.length : Int) < 4000) = false := by simp; omega
      have HF := Hid.of (And.intro ho kp)
      clear ho kp rd1 HL hL4 hlt
      go_wp2
      go_ret
      refine ⟨_, rfl, ?_, HF.out.2⟩
      rw [HR.out]
      exact HF.out.1
set_option maxRecDepth 100000 in
set_option maxHeartbeats 1000000 in
theorem read_gt (w : World) (l : Bs) (hl : 16384 < l.length) :
    Calls Try.prog 48 #[.string (bs l)] w fun e w' => ∃ v, e = .returned v ∧ OutR 108 7 w.heap.size w' v (read l).length (stps (read l)) ∧ Keeps (fun _ => False) w w' := by
  have HE : Hid (read l = rd 4000 (l.take 16384)) := by refine Hid.of ?_; unfold read; rfl
  have htl : ((l.take 16384)).length ≤ 16384 := by rw [List.length_take]; omega
  generalize read l = RL at *
  obtain ⟨w1, hw1⟩ : ∃ w1, w.alloc (.cells #[.string (bs (l.take 16384)), .bool false] 111) = w1 := ⟨_, rfl⟩
  have t1 : TAt w1 w.heap.size ⟨(l.take 16384), false⟩ := by rw [← hw1]; exact alloc_new _ _
  have K1 : Keeps (fun _ => False) w w1 := by rw [← hw1]; exact (Keeps.refl _ _).alloc _
  have hbs := lt_of t1
  go_enter Try.func48, Try.ntmps48
  go_wp2
  obtain ⟨b, hb⟩ : ∃ b, w.heap.size = b := ⟨_, rfl⟩
  rw [hb] at t1 hbs
  have HB := Hid.of hb
  clear hw1
  try rw [hb]
  go_loopw [2] (fun v wr => ∃ (L : List Stp) (m : Bs), L.length ≤ 4000 ∧ OutR 108 7 (b + 1) wr v L.length (stps L) ∧ TAt wr b ⟨m, false⟩ ∧ m.length ≤ 16384 ∧ Hid (RL = L ++ rd (4000 - L.length) m) ∧ Keeps (fun _ => False) w wr) (fun v _ => 4000 - sliceLen v)
  case atStart => exact ⟨[], _, Nat.zero_le _, ⟨Own.nil _ _ _, by simp [Value.ownBlock]⟩, t1, htl, Hid.of (by rw [HE.out]; rfl), K1⟩
  case round =>
    clear t1 htl K1 hbs hl
    obtain ⟨L, m, hL, ho, t, hm, HL, kp⟩ := hrel
    obtain ⟨A, cap, rfl, hcap, hA, rd1⟩ := ho.rd
    have hbl := lt_of t
    by_cases hlt : L.length < 4000
    · cases ho1 : one m with
      | none =>
        have q := step_no wr b m t (by omega) ho1
        have HR : Hid (RL = L) := by refine Hid.of ?_; rw [HL.out, rd_none ho1, List.append_nil]
        clear ho1
        go_wp2_with fail
        refine q.mono ?_
        rintro e w4 ⟨rfl, k4⟩
        have o4 : OutR 108 7 (b + 1) w4 (.slice A L.length cap) L.length (stps L) := ⟨ho.1.keep k4 (fun g hg => by have := ho.2 g hg; omega), ho.2⟩
        have K4 : Keeps (fun _ => False) w w4 := kp.trans' k4 (fun x e hl => by have := HB.out; omega)
        have HF := Hid.of (And.intro o4 K4)
        clear ho t o4 K4 k4 kp rd1
        go_wp2
        go_ret
        refine ⟨_, rfl, ?_, HF.out.2.alloc _⟩
        rw [HR.out]
        exact ⟨HF.out.1.1.alloc _, fun g hg => by have := HF.out.1.2 g hg; have := HB.out; omega⟩
      | some p =>
        obtain ⟨x, r⟩ := p
        have q := step_yes wr b m t (by omega) x r ho1
        have hrl := one_len ho1
        have HR : Hid (RL = (L ++ [x]) ++ rd (4000 - (L ++ [x]).length) r) := by
          refine Hid.of ?_
          rw [HL.out, show 4000 - L.length = (4000 - (L ++ [x]).length) + 1 by simp; omega, rd_some ho1, List.append_assoc]
          rfl
        clear ho1
        go_wp2_with fail
        refine q.mono ?_
        rintro e w4 ⟨rfl, t4, k4⟩
        have o4 : OutR 108 7 (b + 1) w4 (.slice A L.length cap) L.length (stps L) := ⟨ho.1.keep k4 (fun g hg => by have := ho.2 g hg; omega), ho.2⟩
        have K4 : Keeps (fun _ => False) w w4 := kp.trans' k4 (fun x e hl => by have := HB.out; omega)
        obtain ⟨w5, hw5⟩ : ∃ w5, w4.alloc (.cells #[.int .i64 x.kind, .int .i64 x.tenant, .int .i64 x.n, .int .i64 x.m, .int .u64 x.handle, .string (bs x.data), .int .i64 x.back] 108) = w5 := ⟨_, rfl⟩
        have x5 : XAt w5 w4.heap.size x := by rw [← hw5]; exact alloc_new _ _
        have o5 : OutR 108 7 (b + 1) w5 (.slice A L.length cap) L.length (stps L) := by rw [← hw5]; exact ⟨o4.1.alloc _, o4.2⟩
        have K5 : Keeps (fun _ => False) w w5 := by rw [← hw5]; exact K4.alloc _
        have t5 : TAt w5 b ⟨r, false⟩ := by rw [← hw5]; exact alloc_old t4 _
        obtain ⟨h0, h1, h2, h3, h4, h5, h6⟩ := x5.all
        have hs5 : b + 1 ≤ w5.heap.size := lt_of t5
        clear ho t o4 K4 k4 kp rd1 t4 q
        go_wp2_with (at_builtin; refine wpList_app1 slSteps w5 rfl _ _ rfl (.slice A L.length cap) L.length (stps L) rfl o5.1 [.int .i64 x.kind, .int .i64 x.tenant, .int .i64 x.n, .int .i64 x.m, .int .u64 x.handle, .string (bs x.data), .int .i64 x.back] rfl rfl (one_enc x) (by unfold maxLen; omega) (by omega) ?_; intro v6 w6 o6 k6 at6; obtain ⟨A6, c6, rfl, -, -, -⟩ := o6.shape)
        go_roundw
        case rel =>
          refine ⟨L ++ [x], r, by simp; omega, ?_, t5.keep k6 (fun e => by have := o5.2 b e; omega), by omega, HR, K5.trans' k6 (fun g hg hl => by have := o5.2 g hg; have := HB.out; omega)⟩
          rw [stps_append, List.length_append]
          exact o5.app (ds := [.int .i64 x.kind, .int .i64 x.tenant, .int .i64 x.n, .int .i64 x.m, .int .u64 x.handle, .string (bs x.data), .int .i64 x.back]) o6 at6 hs5
        case measure => simp [sliceLen]; omega
    · have hL4 : L.length = 4000 := by omega
      have HR : Hid (RL = L) := by refine Hid.of ?_; rw [HL.out, hL4]; simp [rd]
      have hk1 : ¬ L.length < 4000 := hlt
      have hk2 : decide ((L.length : Int) < 4000) = false := by simp; omega
      have HF := Hid.of (And.intro ho kp)
      clear ho kp t rd1 HL hL4 hlt
      go_wp2
      go_ret
      refine ⟨_, rfl, ?_, HF.out.2⟩
      rw [HR.out]
      exact ⟨HF.out.1.1, fun g hg => by have := HF.out.1.2 g hg; have := HB.out; omega⟩
set_option maxRecDepth 100000 in
set_option maxHeartbeats 1000000 in
theorem rread_gt (w : World) (l : Bs) (hl : 16384 < l.length) :
    Calls Try.prog 49 #[.string (bs l)] w fun e w' => ∃ v, e = .returned v ∧ OutR 108 7 w.heap.size w' v (read l).length (stps (read l)) ∧ Keeps (fun _ => False) w w' := by
  have HE : Hid (read l = rd 4000 (l.take 16384)) := by refine Hid.of ?_; unfold read; rfl
  have htl : ((l.take 16384)).length ≤ 16384 := by rw [List.length_take]; omega
  generalize read l = RL at *
  go_enter Try.func49, Try.ntmps49
  go_wp2
  go_loopw [0, 3] (fun s v wr => ∃ (L : List Stp) (m : Bs), L.length ≤ 4000 ∧ s = .string (bs m) ∧ OutR 108 7 w.heap.size wr v L.length (stps L) ∧ m.length ≤ 16384 ∧ Hid (RL = L ++ rd (4000 - L.length) m) ∧ Keeps (fun _ => False) w wr) (fun _ v _ => 4000 - sliceLen v)
  case atStart => exact ⟨[], _, Nat.zero_le _, rfl, ⟨Own.nil _ _ _, by simp [Value.ownBlock]⟩, htl, Hid.of (by rw [HE.out]; rfl), Keeps.refl _ _⟩
  case round =>
    clear htl hl
    obtain ⟨L, m, hL, rfl, ho, hm, HL, kp⟩ := hrel
    obtain ⟨A, cap, rfl, hcap, hA, rd1⟩ := ho.rd
    have hsz := kp.size
    by_cases hlt : L.length < 4000
    · cases ho1 : one m with
      | none =>
        have q := one_no wr m (by omega) ho1
        have HR : Hid (RL = L) := by refine Hid.of ?_; rw [HL.out, rd_none ho1, List.append_nil]
        clear ho1
        go_wp2_with fail
        refine q.mono ?_
        rintro e w4 ⟨rfl, k4⟩
        have o4 : OutR 108 7 w.heap.size w4 (.slice A L.length cap) L.length (stps L) := ⟨ho.1.keep k4 (fun g hg e => e), ho.2⟩
        have K4 : Keeps (fun _ => False) w w4 := kp.trans k4
        have HF := Hid.of (And.intro o4 K4)
        clear ho o4 K4 k4 kp rd1
        go_wp2
        go_ret
        refine ⟨_, rfl, ?_, HF.out.2.alloc _⟩
        rw [HR.out]
        exact ⟨HF.out.1.1.alloc _, HF.out.1.2⟩
      | some p =>
        obtain ⟨x, r⟩ := p
        have q := one_yes wr m (by omega) x r ho1
        have hrl := one_len ho1
        have HR : Hid (RL = (L ++ [x]) ++ rd (4000 - (L ++ [x]).length) r) := by
          refine Hid.of ?_
          rw [HL.out, show 4000 - L.length = (4000 - (L ++ [x]).length) + 1 by simp; omega, rd_some ho1, List.append_assoc]
          rfl
        clear ho1
        go_wp2_with fail
        refine q.mono ?_
        rintro e w4 ⟨rfl, k4⟩
        have o4 : OutR 108 7 w.heap.size w4 (.slice A L.length cap) L.length (stps L) := ⟨ho.1.keep k4 (fun g hg e => e), ho.2⟩
        have K4 : Keeps (fun _ => False) w w4 := kp.trans k4
        obtain ⟨w5, hw5⟩ : ∃ w5, w4.alloc (.cells #[.int .i64 x.kind, .int .i64 x.tenant, .int .i64 x.n, .int .i64 x.m, .int .u64 x.handle, .string (bs x.data), .int .i64 x.back] 108) = w5 := ⟨_, rfl⟩
        have x5 : XAt w5 w4.heap.size x := by rw [← hw5]; exact alloc_new _ _
        have o5 : OutR 108 7 w.heap.size w5 (.slice A L.length cap) L.length (stps L) := by rw [← hw5]; exact ⟨o4.1.alloc _, o4.2⟩
        have K5 : Keeps (fun _ => False) w w5 := by rw [← hw5]; exact K4.alloc _
        obtain ⟨h0, h1, h2, h3, h4, h5, h6⟩ := x5.all
        have hs5 : w.heap.size ≤ w5.heap.size := K5.size
        clear ho o4 K4 k4 kp rd1 q
        go_wp2_with (at_builtin; refine wpList_app1 slSteps w5 rfl _ _ rfl (.slice A L.length cap) L.length (stps L) rfl o5.1 [.int .i64 x.kind, .int .i64 x.tenant, .int .i64 x.n, .int .i64 x.m, .int .u64 x.handle, .string (bs x.data), .int .i64 x.back] rfl rfl (one_enc x) (by unfold maxLen; omega) (by omega) ?_; intro v6 w6 o6 k6 at6; obtain ⟨A6, c6, rfl, -, -, -⟩ := o6.shape)
        go_roundw
        case rel =>
          refine ⟨L ++ [x], r, by simp; omega, rfl, ?_, by omega, HR, K5.trans' k6 (fun g hg hl => by have := o5.2 g hg; omega)⟩
          rw [stps_append, List.length_append]
          exact o5.app (ds := [.int .i64 x.kind, .int .i64 x.tenant, .int .i64 x.n, .int .i64 x.m, .int .u64 x.handle, .string (bs x.data), .int .i64 x.back]) o6 at6 hs5
        case measure => simp [sliceLen]; omega
    · have hL4 : L.length = 4000 := by omega
      have HR : Hid (RL = L) := by refine Hid.of ?_; rw [HL.out, hL4]; simp [rd]
      have hk1 : ¬ L.length < 4000 := hlt
      have hk2 : decide ((L.length : Int) < 4000) = false := by simp; omega
      have HF := Hid.of (And.intro ho kp)
      clear ho kp rd1 HL hL4 hlt
      go_wp2
      go_ret
      refine ⟨_, rfl, ?_, HF.out.2⟩
      rw [HR.out]
      exact HF.out.1
theorem read_any (w : World) (l : Bs) :
    Calls Try.prog 48 #[.string (bs l)] w fun e w' => ∃ v, e = .returned v ∧ OutR 108 7 w.heap.size w' v (read l).length (stps (read l)) ∧ Keeps (fun _ => False) w w' := by
  by_cases h : l.length ≤ 16384
  · exact read_le w l h
  · exact read_gt w l (by omega)
theorem rread_any (w : World) (l : Bs) :
    Calls Try.prog 49 #[.string (bs l)] w fun e w' => ∃ v, e = .returned v ∧ OutR 108 7 w.heap.size w' v (read l).length (stps (read l)) ∧ Keeps (fun _ => False) w w' := by
  by_cases h : l.length ≤ 16384
  · exact rread_le w l h
  · exact rread_gt w l (by omega)
end Scr
end Go.Proofs.Ytmlolkjgniodpaa
