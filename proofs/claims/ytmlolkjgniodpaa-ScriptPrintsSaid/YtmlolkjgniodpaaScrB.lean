/- The script package's tape: text, handle. -/
import Derived.Test.YtmlolkjgniodpaaScrA
import Derived.StillTailTactics
set_option linter.unusedVariables false
set_option linter.unusedSimpArgs false
namespace Go.Proofs.Ytmlolkjgniodpaa
open Go.RowKit Go.ChangeMaps
theorem bytes_conv (w : World) (l : Bs) : ∃ w1 cap, (convert 9 116 (.string (bs l))).run Try.prog w = .ok (.slice (some ⟨w.heap.size, 0, none⟩) l.length cap) w1 ∧ Rd w1 (some ⟨w.heap.size, 0, none⟩) (u8s l) ∧ Keeps (fun _ => False) w w1 := by
  have h := run_bytes_of_string (P := Try.prog) w 9 116 5 (bs l) Try.underlying9 Try.underlying116 Try.underlying5
  rw [bs_size] at h
  refine ⟨_, _, h, ?_, (Keeps.refl (fun _ => False) w).drew.alloc _⟩
  intro j u hu
  refine ⟨_, rfl, ?_⟩
  rw [addr_add, Nat.zero_add]
  have hj : j < l.length := by
    have := (List.getElem?_eq_some_iff.1 hu).1
    simpa [u8s] using this
  have e := World.cell?_alloc_mark w.drew (bytesRow (bs l) (grownCap w l.length 0 5)) 5 ((bytesRow (bs l) (grownCap w l.length 0 5)).size, (bytesRow (bs l) (grownCap w l.length 0 5)).size + 1) j
  refine Eq.trans e ?_
  rw [bytesRow_at _ _ _ (by simpa [bs] using hj)]
  rw [← hu]
  simp [u8s, bs, List.getElem?_eq_getElem hj]
namespace Scr
def Stp.enc (s : Stp) : List Value := [.int .i64 s.kind, .int .i64 s.tenant, .int .i64 s.n, .int .i64 s.m, .int .u64 s.handle, .string (bs s.data), .int .i64 s.back]
def XAt (w : World) (b : Nat) (s : Stp) : Prop := w.heap[b]? = some (.cells #[.int .i64 s.kind, .int .i64 s.tenant, .int .i64 s.n, .int .i64 s.m, .int .u64 s.handle, .string (bs s.data), .int .i64 s.back] 108 (0, 0))
theorem tone_bd (t : Tp) : 0 ≤ (tone t).1 ∧ (tone t).1 ≤ 255 := byteAt_bd _ 0
set_option maxRecDepth 100000 in
set_option maxHeartbeats 600000 in
theorem text_any (w : World) (b : Nat) (t : Tp) (h : TAt w b t) (hl : t.rest.length ≤ 1000000) :
    Calls Try.prog 73 #[.pointer (some ⟨b, 0, none⟩)] w fun e w' => e = .returned (.string (bs (ttext t).1)) ∧ TAt w' b (ttext t).2 ∧ Keeps (fun x => x = b) w w' := by
  have q := one_any w b t h hl
  obtain ⟨b1, b2⟩ := tone_bd t
  have hr : (tone t).2.rest.length ≤ 1000000 := by have := tb_rest 1 t; unfold tone; simp only []; omega
  by_cases hz : (tone t).1 = 0
  · have e : ttext t = ([], (tone t).2) := by unfold ttext; rw [if_pos hz]
    rw [e]
    have hz' : ((tone t).1 == 0) = true := by simp [hz]
    clear e hz h
    generalize (tone t).1 = n at *
    generalize (tone t).2 = t1 at *
    go_enter Try.func73, Try.ntmps73
    go_wp2_with fail
    refine q.mono ?_
    rintro e w1 ⟨rfl, h1', k1⟩
    go_wp2
    go_ret
    exact ⟨rfl, h1', k1⟩
  · have e : ttext t = tb (tone t).1.toNat (tone t).2 := by unfold ttext; rw [if_neg hz]
    rw [e]
    have hz' : ((tone t).1 == 0) = false := by simp [hz]
    obtain ⟨n, hn⟩ : ∃ n : Nat, (tone t).1 = n := ⟨(tone t).1.toNat, by omega⟩
    rw [hn] at hz' q b1 b2
    rw [hn, Int.toNat_natCast]
    clear e hz hn h
    generalize (tone t).2 = t1 at *
    go_enter Try.func73, Try.ntmps73
    go_wp2_with fail
    refine q.mono ?_
    rintro e w1 ⟨rfl, h1', k1⟩
    go_wp2_with fail
    refine (bytes_any w1 b t1 n h1' (by omega) hr).mono ?_
    rintro e w2 ⟨rfl, h2', k2⟩
    go_wp2
    go_ret
    exact ⟨rfl, h2', k1.trans k2⟩
theorem XAt.set_back {w : World} {b : Nat} {s : Stp} (h : XAt w b s) (v : Int) : XAt (w.setCell ⟨b, 6, none⟩ (.int .i64 v)) b { s with back := v } := set_of h 6 _
theorem XAt.set_handle {w : World} {b : Nat} {s : Stp} (h : XAt w b s) (v : Int) : XAt (w.setCell ⟨b, 4, none⟩ (.int .u64 v)) b { s with handle := v } := set_of h 4 _
theorem XAt.set_n {w : World} {b : Nat} {s : Stp} (h : XAt w b s) (v : Int) : XAt (w.setCell ⟨b, 2, none⟩ (.int .i64 v)) b { s with n := v } := set_of h 2 _
theorem XAt.set_m {w : World} {b : Nat} {s : Stp} (h : XAt w b s) (v : Int) : XAt (w.setCell ⟨b, 3, none⟩ (.int .i64 v)) b { s with m := v } := set_of h 3 _
theorem XAt.set_kind {w : World} {b : Nat} {s : Stp} (h : XAt w b s) (v : Int) : XAt (w.setCell ⟨b, 0, none⟩ (.int .i64 v)) b { s with kind := v } := set_of h 0 _
theorem XAt.set_tenant {w : World} {b : Nat} {s : Stp} (h : XAt w b s) (v : Int) : XAt (w.setCell ⟨b, 1, none⟩ (.int .i64 v)) b { s with tenant := v } := set_of h 1 _
theorem XAt.set_data {w : World} {b : Nat} {s : Stp} (h : XAt w b s) (v : Bs) : XAt (w.setCell ⟨b, 5, none⟩ (.string (bs v))) b { s with data := v } := set_of h 5 _
theorem XAt.keep {F : Nat → Prop} {w w' : World} {b : Nat} {s : Stp} (h : XAt w b s) (k : Keeps F w w') (hb : ¬ F b) : XAt w' b s := k.at h hb
theorem hv_snoc (l : Bs) (c : UInt8) : hv (l ++ [c]) = hv l + c.toNat * 256 ^ l.length := by
  induction l with
  | nil => simp [hv]
  | cons a l ih =>
    simp only [List.cons_append, hv, ih, List.length_cons, Int.pow_succ]
    rw [Int.mul_add, Int.add_assoc]
    congr 2
    rw [Int.mul_comm 256, Int.mul_assoc]
theorem hv_take (l : Bs) (j : Nat) (hj : j < l.length) : hv (l.take (j + 1)) = hv (l.take j) + byteAt l j * 256 ^ j := by
  have e : l.take (j + 1) = l.take j ++ [l.getD j 0] := by
    rw [List.take_add_one, List.getElem?_eq_getElem hj]
    simp [List.getD_eq_getElem?_getD, List.getElem?_eq_getElem hj]
  rw [e, hv_snoc, List.length_take, Nat.min_eq_left (by omega)]
  rfl
/-- One more byte of a handle. -/
theorem or_byte (l : Bs) (j : Nat) (hj : j < l.length) (h8 : j < 8) : bits .or .u64 (hv (l.take j)) (IntKind.u64.wrap (byteAt l j * 2 ^ (8 * j))) = hv (l.take (j + 1)) := by
  have hb := byteAt_bd l j
  have hh := hv_bound (l.take j)
  have hlen : (l.take j).length = j := by rw [List.length_take, Nat.min_eq_left (by omega)]
  rw [hlen] at hh
  rw [hv_take l j hj]
  obtain ⟨a, ha⟩ := Int.eq_ofNat_of_zero_le hh.1
  obtain ⟨c, hc⟩ := Int.eq_ofNat_of_zero_le hb.1
  rw [ha] at hh ⊢
  rw [hc] at hb ⊢
  have p1 : (256 : Int) ^ j = ((2 ^ (8 * j) : Nat) : Int) := by
    rw [Nat.pow_mul, Int.natCast_pow]; rfl
  have p2 : (2 : Nat) ^ (8 * j) * 256 ≤ 2 ^ 64 := by
    have : (2 : Nat) ^ (8 * j) * 256 = 2 ^ (8 * (j + 1)) := by rw [Nat.mul_add, Nat.pow_add]
    rw [this]; exact Nat.pow_le_pow_right (by omega) (by omega)
  have h3 : c * 2 ^ (8 * j) ≤ 255 * 2 ^ (8 * j) := Nat.mul_le_mul_right _ (by omega)
  have h4 : 0 < 2 ^ (8 * j) := Nat.two_pow_pos _
  have h5 : a < 2 ^ (8 * j) := by
    have := hh.2; rw [p1] at this; exact_mod_cast this
  have e1 : (c : Int) * 2 ^ (8 * j) = ((c * 2 ^ (8 * j) : Nat) : Int) := by norm_cast
  have hw : IntKind.u64.wrap (((c * 2 ^ (8 * j) : Nat) : Int)) = ((c * 2 ^ (8 * j) : Nat) : Int) := by
    rw [IntKind.wrap_u64]
    have : c * 2 ^ (8 * j) < 2 ^ 64 := by omega
    omega
  rw [e1, hw, u64_or_nat a _ (by omega) (by omega), or_disj a c (8 * j) h5, p1]
  norm_cast
end Scr
end Go.Proofs.Ytmlolkjgniodpaa
