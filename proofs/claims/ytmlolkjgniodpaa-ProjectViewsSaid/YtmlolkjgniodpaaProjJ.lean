/- garthlaw24.awake. -/
import Derived.Test.YtmlolkjgniodpaaProjI
import Derived.Test.YtmlolkjgniodpaaAppN
set_option linter.unusedVariables false
set_option linter.unusedSimpArgs false
namespace Go.Proofs.Ytmlolkjgniodpaa
open Go.RowKit Go.ChangeMaps
attribute [-go_sem] run_neq_struct run_eql_struct run_equalIn_agg
namespace Proj
def noData : ByteArray := ⟨#[]⟩
def wl : List XOp := [⟨4, 0, 0, 0, 0, ⟨#[]⟩⟩, ⟨1, 1, 0, 0, 0, ⟨#[]⟩⟩]
def wa : List XAns := [⟨0, 0, 0, 0, ⟨#[]⟩, 0⟩, ⟨0, 0, 0, 0, ⟨#[]⟩, 0⟩]
def wb : List XAns := [⟨0, 0, 0, 1, ⟨#[]⟩, 0⟩, ⟨9, 0, 0, 0, ⟨#[]⟩, 0⟩]
theorem wl1 : ofL 1 wl = [⟨1, 1, 0, 0, 0, ⟨#[]⟩⟩] := by decide
theorem al1 : alikeL (viewL 1 wl wa) (viewL 1 wl wb) = false := by decide
theorem al0 : alikeL (viewL 0 wl wa) (viewL 0 wl wb) = true := by decide
theorem le0 : leaksL (viewL 0 wl wa) (viewL 0 wl wb) = 0 := by decide
theorem le1 : leaksL (viewL 1 wl wa) (viewL 1 wl wb) = -1 := by decide
set_option maxRecDepth 100000 in
set_option maxHeartbeats 6000000 in
theorem awake_any (w : World) : Calls Try.prog 14 #[] w fun e w' => e = .returned (.bool true) ∧ Keeps (fun _ => False) w w' := by
  obtain ⟨w1, hw1⟩ : ∃ w1, w.alloc (.cells #[.int .i64 4, .int .i64 0, .int .i64 0, .int .i64 0, .int .u64 0, .string ⟨#[]⟩, .int .i64 1, .int .i64 1, .int .i64 0, .int .i64 0, .int .u64 0, .string ⟨#[]⟩] 30) = w1 := ⟨_, rfl⟩
  have k1 : Keeps (fun _ => False) w w1 := by rw [← hw1]; exact (Keeps.refl _ _).alloc _
  have r1 : Rd w1 (some ⟨w.heap.size, 0, none⟩) (ops wl) := by rw [← hw1]; exact rd_lit w (ops wl) _
  have s1 : w1.heap.size = w.heap.size + 1 := by rw [← hw1]; simp
  obtain ⟨w2, hw2⟩ : ∃ w2, w1.alloc (.cells #[.int .i64 0, .int .u64 0, .int .i64 0, .int .i64 0, .string ⟨#[]⟩, .int .i64 0, .int .i64 0, .int .u64 0, .int .i64 0, .int .i64 0, .string ⟨#[]⟩, .int .i64 0] 35) = w2 := ⟨_, rfl⟩
  have k2 : Keeps (fun _ => False) w1 w2 := by rw [← hw2]; exact (Keeps.refl _ _).alloc _
  have r2 : Rd w2 (some ⟨w1.heap.size, 0, none⟩) (anss wa) := by rw [← hw2]; exact rd_lit w1 (anss wa) _
  obtain ⟨w3, hw3⟩ : ∃ w3, w2.alloc (.cells #[.int .i64 0, .int .u64 0, .int .i64 0, .int .i64 1, .string ⟨#[]⟩, .int .i64 0, .int .i64 9, .int .u64 0, .int .i64 0, .int .i64 0, .string ⟨#[]⟩, .int .i64 0] 35) = w3 := ⟨_, rfl⟩
  have k3 : Keeps (fun _ => False) w2 w3 := by rw [← hw3]; exact (Keeps.refl _ _).alloc _
  have r3 : Rd w3 (some ⟨w2.heap.size, 0, none⟩) (anss wb) := by rw [← hw3]; exact rd_lit w2 (anss wb) _
  obtain ⟨w4, hw4⟩ : ∃ w4, w3.alloc (.cells #[] 30) = w4 := ⟨_, rfl⟩
  have k4 : Keeps (fun _ => False) w3 w4 := by rw [← hw4]; exact (Keeps.refl _ _).alloc _
  have o4 : Own w4 30 6 (.slice (some ⟨w3.heap.size, 0, none⟩) 0 0) 0 [] := by rw [← hw4]; exact own_empty _ _ _
  have k14 := (k2.trans k3).trans k4
  have k04 := k1.trans k14
  have R1 := r1.old k14
  have R2 := r2.old (k3.trans k4)
  have R3 := r3.old k4
  have s2 : w2.heap.size = w1.heap.size + 1 := by rw [← hw2]; simp
  have s3 : w3.heap.size = w2.heap.size + 1 := by rw [← hw3]; simp
  have HS := Hid.of (And.intro s1 (And.intro s2 s3))
  clear s1 s2 s3 r1 r2 r3 k1 k2 k3 k4 k14
  go_enter Try.func14, Try.ntmps14
  go_wp2_with (at_builtin; refine wpList_appN slOps w4 rfl _ _ rfl _ rfl o4 (some ⟨w.heap.size, 0, none⟩) 2 2 (ops wl) rfl (by simp) rfl R1 (by simp [ops, wl, XOp.enc, Value.oneCell']) (by unfold maxLen; omega) (by omega) ?_; intro v5 w5 o5 k5 at5)
  have hF : ∀ x, Value.ownBlock (.slice (some ⟨w3.heap.size, 0, none⟩) 0 0) = some x → x = w3.heap.size := fun x h => by cases h; rfl
  obtain ⟨s1, s2, s3⟩ := HS.out
  have k05 := k04.trans' k5 (fun x hx hl => by have := hF x hx; omega)
  have Q1 := R1.keep k5 (fun ad had _ e => by cases had; have := hF _ e; simp only [] at this; omega)
  have Q2 := R2.keep k5 (fun ad had _ e => by cases had; have := hF _ e; simp only [] at this; omega)
  have Q3 := R3.keep k5 (fun ad had _ e => by cases had; have := hF _ e; simp only [] at this; omega)
  obtain ⟨A5, c5, rfl, -, -, r5⟩ := OutR.rd (B := 0) ⟨o5, fun _ _ => Nat.zero_le _⟩
  refine (of_any w5 A5 c5 1 wl 2 r5 rfl (by omega)).mono ?_
  rw [wl1]
  rintro e w6 ⟨v6, rfl, o6, k6⟩
  obtain ⟨M, d6, rfl, -, -, r6⟩ := o6.rd
  have k06 := k05.trans k6
  replace Q1 := Q1.old k6
  replace Q2 := Q2.old k6
  replace Q3 := Q3.old k6
  obtain ⟨⟨b1, o1, t1⟩, rfl, m0⟩ := r6 0 _ rfl
  obtain ⟨ad', h', m1⟩ := r6 1 _ rfl; cases h'
  obtain ⟨ad', h', m2⟩ := r6 2 _ rfl; cases h'
  obtain ⟨ad', h', m3⟩ := r6 3 _ rfl; cases h'
  obtain ⟨ad', h', m4⟩ := r6 4 _ rfl; cases h'
  obtain ⟨ad', h', m5⟩ := r6 5 _ rfl; cases h'
  obtain ⟨ad', h', l0⟩ := Q1 6 _ rfl; cases h'
  obtain ⟨ad', h', l1⟩ := Q1 7 _ rfl; cases h'
  obtain ⟨ad', h', l2⟩ := Q1 8 _ rfl; cases h'
  obtain ⟨ad', h', l3⟩ := Q1 9 _ rfl; cases h'
  obtain ⟨ad', h', l4⟩ := Q1 10 _ rfl; cases h'
  obtain ⟨ad', h', l5⟩ := Q1 11 _ rfl; cases h'
  have SK : ∀ wx wy : World, Keeps (fun _ => False) wx wy → (fun wx : World => wx.cell? ⟨b1, o1, t1⟩ = some (.int .i64 1) ∧ wx.cell? ⟨b1, o1 + 1, none⟩ = some (.int .i64 1) ∧ wx.cell? ⟨b1, o1 + 2, none⟩ = some (.int .i64 0) ∧ wx.cell? ⟨b1, o1 + 3, none⟩ = some (.int .i64 0) ∧ wx.cell? ⟨b1, o1 + 4, none⟩ = some (.int .u64 0) ∧ wx.cell? ⟨b1, o1 + 5, none⟩ = some (.string ⟨#[]⟩) ∧ wx.cell? ⟨w.heap.size, 6, none⟩ = some (.int .i64 1) ∧ wx.cell? ⟨w.heap.size, 7, none⟩ = some (.int .i64 1) ∧ wx.cell? ⟨w.heap.size, 8, none⟩ = some (.int .i64 0) ∧ wx.cell? ⟨w.heap.size, 9, none⟩ = some (.int .i64 0) ∧ wx.cell? ⟨w.heap.size, 10, none⟩ = some (.int .u64 0) ∧ wx.cell? ⟨w.heap.size, 11, none⟩ = some (.string ⟨#[]⟩)) wx → (fun wx : World => wx.cell? ⟨b1, o1, t1⟩ = some (.int .i64 1) ∧ wx.cell? ⟨b1, o1 + 1, none⟩ = some (.int .i64 1) ∧ wx.cell? ⟨b1, o1 + 2, none⟩ = some (.int .i64 0) ∧ wx.cell? ⟨b1, o1 + 3, none⟩ = some (.int .i64 0) ∧ wx.cell? ⟨b1, o1 + 4, none⟩ = some (.int .u64 0) ∧ wx.cell? ⟨b1, o1 + 5, none⟩ = some (.string ⟨#[]⟩) ∧ wx.cell? ⟨w.heap.size, 6, none⟩ = some (.int .i64 1) ∧ wx.cell? ⟨w.heap.size, 7, none⟩ = some (.int .i64 1) ∧ wx.cell? ⟨w.heap.size, 8, none⟩ = some (.int .i64 0) ∧ wx.cell? ⟨w.heap.size, 9, none⟩ = some (.int .i64 0) ∧ wx.cell? ⟨w.heap.size, 10, none⟩ = some (.int .u64 0) ∧ wx.cell? ⟨w.heap.size, 11, none⟩ = some (.string ⟨#[]⟩)) wy := fun wx wy k h => ⟨keep_cell k h.1, keep_cell k h.2.1, keep_cell k h.2.2.1, keep_cell k h.2.2.2.1, keep_cell k h.2.2.2.2.1, keep_cell k h.2.2.2.2.2.1, keep_cell k h.2.2.2.2.2.2.1, keep_cell k h.2.2.2.2.2.2.2.1, keep_cell k h.2.2.2.2.2.2.2.2.1, keep_cell k h.2.2.2.2.2.2.2.2.2.1, keep_cell k h.2.2.2.2.2.2.2.2.2.2.1, keep_cell k h.2.2.2.2.2.2.2.2.2.2.2⟩
  have S6 : (fun wx : World => wx.cell? ⟨b1, o1, t1⟩ = some (.int .i64 1) ∧ wx.cell? ⟨b1, o1 + 1, none⟩ = some (.int .i64 1) ∧ wx.cell? ⟨b1, o1 + 2, none⟩ = some (.int .i64 0) ∧ wx.cell? ⟨b1, o1 + 3, none⟩ = some (.int .i64 0) ∧ wx.cell? ⟨b1, o1 + 4, none⟩ = some (.int .u64 0) ∧ wx.cell? ⟨b1, o1 + 5, none⟩ = some (.string ⟨#[]⟩) ∧ wx.cell? ⟨w.heap.size, 6, none⟩ = some (.int .i64 1) ∧ wx.cell? ⟨w.heap.size, 7, none⟩ = some (.int .i64 1) ∧ wx.cell? ⟨w.heap.size, 8, none⟩ = some (.int .i64 0) ∧ wx.cell? ⟨w.heap.size, 9, none⟩ = some (.int .i64 0) ∧ wx.cell? ⟨w.heap.size, 10, none⟩ = some (.int .u64 0) ∧ wx.cell? ⟨w.heap.size, 11, none⟩ = some (.string ⟨#[]⟩))  w6 := ⟨by simpa [Addr.add] using m0, by simpa [Addr.add] using m1, by simpa [Addr.add] using m2, by simpa [Addr.add] using m3, by simpa [Addr.add] using m4, by simpa [Addr.add] using m5, by simpa [Addr.add] using l0, by simpa [Addr.add] using l1, by simpa [Addr.add] using l2, by simpa [Addr.add] using l3, by simpa [Addr.add] using l4, by simpa [Addr.add] using l5⟩
  have hop : opEq 1 1 0 0 0 ⟨#[]⟩ 1 1 0 0 0 ⟨#[]⟩ = true := by decide
  have q1 := fun (wx : World) (k : Keeps (fun _ => False) w6 wx) => alike_any wx _ _ _ _ 2 2 2 2 1 wl wl wa wb (Q1.old k) (Q2.old k) (Q1.old k) (Q3.old k) (by decide) (by decide) (by decide) (by decide) (by decide) (by decide) (by decide) (by decide) (by simp) (by simp)
  have q0 := fun (wx : World) (k : Keeps (fun _ => False) w6 wx) => alike_any wx _ _ _ _ 2 2 2 2 0 wl wl wa wb (Q1.old k) (Q2.old k) (Q1.old k) (Q3.old k) (by decide) (by decide) (by decide) (by decide) (by decide) (by decide) (by decide) (by decide) (by simp) (by simp)
  have p0 := fun (wx : World) (k : Keeps (fun _ => False) w6 wx) => leaks_any wx _ _ _ _ 2 2 2 2 0 wl wl wa wb (Q1.old k) (Q2.old k) (Q1.old k) (Q3.old k) (by decide) (by decide) (by decide) (by decide) (by decide) (by decide) (by decide) (by decide) (by simp) (by simp)
  have p1 := fun (wx : World) (k : Keeps (fun _ => False) w6 wx) => leaks_any wx _ _ _ _ 2 2 2 2 1 wl wl wa wb (Q1.old k) (Q2.old k) (Q1.old k) (Q3.old k) (by decide) (by decide) (by decide) (by decide) (by decide) (by decide) (by decide) (by decide) (by simp) (by simp)
  simp only [al1, al0, le0, le1] at q1 q0 p0 p1
  have kz : Keeps (fun _ => False) w6 w6.drew := (Keeps.refl _ _).drew
  clear s1 s2 s3 o4 o5 o6 R1 R2 R3 Q1 Q2 Q3 r5 r6 k04 k05 k5 k6
  go_wp2_with fail
  go_region_held3 (fun wx : World => wx.cell? ⟨b1, o1, t1⟩ = some (.int .i64 1) ∧ wx.cell? ⟨b1, o1 + 1, none⟩ = some (.int .i64 1) ∧ wx.cell? ⟨b1, o1 + 2, none⟩ = some (.int .i64 0) ∧ wx.cell? ⟨b1, o1 + 3, none⟩ = some (.int .i64 0) ∧ wx.cell? ⟨b1, o1 + 4, none⟩ = some (.int .u64 0) ∧ wx.cell? ⟨b1, o1 + 5, none⟩ = some (.string ⟨#[]⟩) ∧ wx.cell? ⟨w.heap.size, 6, none⟩ = some (.int .i64 1) ∧ wx.cell? ⟨w.heap.size, 7, none⟩ = some (.int .i64 1) ∧ wx.cell? ⟨w.heap.size, 8, none⟩ = some (.int .i64 0) ∧ wx.cell? ⟨w.heap.size, 9, none⟩ = some (.int .i64 0) ∧ wx.cell? ⟨w.heap.size, 10, none⟩ = some (.int .u64 0) ∧ wx.cell? ⟨w.heap.size, 11, none⟩ = some (.string ⟨#[]⟩))
    (first | exact S6 | exact S7 | exact S8 | exact S9 | exact S10)
    (first
      | (go_at_call 19; have kk := kz7; refine (q0 _ kz7).mono ?_; rintro e w8 ⟨rfl, k8⟩; have S8 := SK _ _ k8 S7; have kz8 := kz7.trans k8)
      | (go_at_call 19; refine (q1 _ kz).mono ?_; rintro e w7 ⟨rfl, k7⟩; have S7 := SK _ _ (kz.trans k7) S6; have kz7 := kz.trans k7)
      | (go_at_call 21; have kk := kz9; refine (p1 _ kz9).mono ?_; rintro e w10 ⟨rfl, k10⟩; have S10 := SK _ _ k10 S9; have kz10 := kz9.trans k10)
      | (go_at_call 21; refine (p0 _ kz8).mono ?_; rintro e w9 ⟨rfl, k9⟩; have S9 := SK _ _ k9 S8; have kz9 := kz8.trans k9))
  go_wp2
  go_ret
  exact ⟨rfl, k06.trans kz10⟩
end Proj
end Go.Proofs.Ytmlolkjgniodpaa
