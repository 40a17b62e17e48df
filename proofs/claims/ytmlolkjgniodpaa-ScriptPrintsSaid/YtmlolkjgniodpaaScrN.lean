/- awake; ScriptReads, ScriptCuts. -/
import Derived.Test.YtmlolkjgniodpaaScrM
set_option linter.unusedVariables false
set_option linter.unusedSimpArgs false
namespace Go.Proofs.Ytmlolkjgniodpaa
open Go.RowKit Go.ChangeMaps
attribute [-go_sem] run_index_string run_neq_struct run_eql_struct run_equalIn_agg
namespace Scr
theorem read_one {l : Bs} {x : Stp} (h : one l = some (x, [])) (hl : l.length ≤ 16384) : read l = [x] := by
  unfold read
  rw [List.take_of_length_le hl, rd_some h, rd_none (by rfl)]
theorem ra1 : read [4, 2, 40, 0] = [⟨4, 2, 40, 0, 0, [], 0⟩] := read_one (by decide) (by decide)
theorem ra2 : read [6, 2, 1] = [⟨6, 2, 0, 0, 0, [], 1⟩] := read_one (by decide) (by decide)
theorem ra3 : read [4, 2, 40] = [] := by
  unfold read
  exact rd_none (by decide) _
set_option maxRecDepth 100000 in
set_option maxHeartbeats 2000000 in
theorem awake_any (w : World) : Calls Try.prog 46 #[] w fun e w' => e = .returned (.bool true) ∧ Keeps (fun _ => False) w w' := by
  have q1 := read_any w [4, 2, 40, 0]
  have q2 := fun w => read_any w [6, 2, 1]
  have q3 := fun w => read_any w [4, 2, 40]
  rw [ra1] at q1
  rw [ra2] at q2
  rw [ra3] at q3
  have hstr : (([4, 0, 255, 255] : Bs) == (⟨#[4, 0, 255, 255]⟩ : ByteArray).toList) = true := by
    show (([4, 0, 255, 255] : Bs) == (bs [4, 0, 255, 255]).toList) = true
    rw [bs_toList]; rfl
  have nq1 : ∀ w, (binOp .eql 108 (.agg #[.int .i64 4, .int .i64 2, .int .i64 40, .int .i64 0, .int .u64 0, .string (bs []), .int .i64 0]) (.agg #[.int .i64 4, .int .i64 2, .int .i64 40, .int .i64 0, .int .u64 0, .string ⟨#[]⟩, .int .i64 0])).run Try.prog w = .ok (.bool true) w := fun w => eql_stp w 4 2 40 0 0 0 4 2 40 0 0 0 [] []
  have nq2 : ∀ w, (binOp .eql 108 (.agg #[.int .i64 6, .int .i64 2, .int .i64 0, .int .i64 0, .int .u64 0, .string (bs []), .int .i64 1]) (.agg #[.int .i64 6, .int .i64 2, .int .i64 0, .int .i64 0, .int .u64 0, .string ⟨#[]⟩, .int .i64 1])).run Try.prog w = .ok (.bool true) w := fun w => eql_stp w 6 2 0 0 0 1 6 2 0 0 0 1 [] []
  go_enter Try.func46, Try.ntmps46
  go_wp2_with fail
  refine q1.mono ?_
  rintro e w1 ⟨v1, rfl, o1, k1⟩
  obtain ⟨A1, p1, rfl, -, -, r1⟩ := o1.rd
  go_wp2_with fail
  refine (q2 w1).mono ?_
  rintro e w2 ⟨v2, rfl, o2, k2⟩
  obtain ⟨A2, p2, rfl, -, -, r2⟩ := o2.rd
  go_wp2_with fail
  refine (q3 w2).mono ?_
  rintro e w3 ⟨v3, rfl, o3, k3⟩
  obtain ⟨A3, p3, rfl, -, -, r3⟩ := o3.rd
  have R1 := ((r1.old k2).old k3)
  have R2 := r2.old k3
  have K3 := (k1.trans k2).trans k3
  have R4 := rd_new w3 (stps [stp4]) 108
  have K4 : Keeps (fun _ => False) w3 (w3.alloc (.cells (stps [stp4]).toArray 108)) := (Keeps.refl _ _).alloc _
  have HR := Hid.of (And.intro R1 (And.intro R2 K3))
  clear o1 o2 o3 r1 r2 r3 k1 k2 k3 q1 q2 q3 R1 R2 K3
  simp only [List.length_cons, List.length_nil, Nat.zero_add]
  go_wp2_with fail
  refine (print4 _ _ _ R4).mono ?_
  rintro e w5 ⟨rfl, k5⟩
  have R1 := (HR.out.1.old K4).old k5
  have R2 := (HR.out.2.1.old K4).old k5
  have K5 := (HR.out.2.2.trans K4).trans k5
  obtain ⟨b1, o1, s1, x1, x2, x3, x4, x5, x6, x7, hg, hA1, c0, c1, c2, c3, c4, c5, c6⟩ := rstp R1 0 (by simp)
  have hx : (⟨x1, x2, x3, x4, x5, x6, x7⟩ : Stp) = ⟨4, 2, 40, 0, 0, [], 0⟩ := by simpa using hg.symm
  injection hx with e1 e2 e3 e4 e5 e6 e7
  subst e1 e2 e3 e4 e5 e6 e7
  obtain ⟨b2, o2, s2, y1, y2, y3, y4, y5, y6, y7, hg2, hA2, d0, d1, d2, d3, d4, d5, d6⟩ := rstp R2 0 (by simp)
  have hy : (⟨y1, y2, y3, y4, y5, y6, y7⟩ : Stp) = ⟨6, 2, 0, 0, 0, [], 1⟩ := by simpa using hg2.symm
  injection hy with e1 e2 e3 e4 e5 e6 e7
  subst e1 e2 e3 e4 e5 e6 e7
  subst hA1 hA2
  simp only [Nat.zero_mul, Addr.add_zero'] at c0 c1 c2 c3 c4 c5 c6 d0 d1 d2 d3 d4 d5 d6
  have HK := Hid.of K5
  clear HR R1 R2 K5 R4 K4 k5 hg hg2
  go_wp2
  go_ret
  exact ⟨rfl, HK.out⟩
end Scr
end Go.Proofs.Ytmlolkjgniodpaa
